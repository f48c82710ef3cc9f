/- What the functions that GravityGains reaches compute: contracts, each function once. No condition. -/
import Derived.Test.YtcecdmdnfmgnfaaDoorLayB
import Derived.Test.YtcecdmdnfmgnfaaDoorAwGbGravityGains
import Derived.KernelRfl
namespace Go.Proofs.YtcecdmdnfmgnfaaDoor
open Go Go.Mx
set_option maxRecDepth 100000
abbrev wi (n : Int) : Int := IntKind.i64.wrap n
abbrev zz0 : Int := 0
abbrev zz1 : Int := 1
abbrev zz2 : Int := 2
abbrev zz3 : Int := 3
theorem od {p : Prop} [Decidable p] (h : decide p = true) : p := of_decide_eq_true h
theorem nof {p : Prop} (h : false = true) : p := Bool.noConfusion h
theorem rf {p : Prop} {α : Sort _} {a : α} (_ : p) : a = a := rfl
/-- Ranges, and ties: from, to, difference. -/
abbrev GR : Type := Int × Int
abbrev GT : Type := Int × Int × Int × Int
/- gravity_within -/
def C_gravity_within : Cons := []
theorem hC_gravity_within : ConsOk Tryd.prog C_gravity_within := ConsOk.nil
def w_gravity_within (p0 : Int) (p1 : Int) (p2 : Int) (K : Bool → Prop) : Prop :=
 ((((decide (p1 ≤ p0)) = true) →
  ((decide (p1 ≤ p0)) = (decide (p1 ≤ p0)))) ∧
  ((((decide (p1 ≤ p0)) = true) →
  ((decide (p1 ≤ p0)) = (decide (p1 ≤ p0)))) ∧
  (((decide (p1 ≤ p0)) = (decide (p1 ≤ p0))) ∧
  (K (cond (decide (p1 ≤ p0)) (decide (p0 ≤ p2)) false)))))
set_option maxHeartbeats 4000000 in
theorem w_gravity_within_eq (p0 : Int) (p1 : Int) (p2 : Int) (K : Bool → Prop) : tfn F_gravity_within A_gravity_within C_gravity_within P_gravity_within R_gravity_within (p0, p1, p2) K = w_gravity_within p0 p1 p2 K := by kernel_rfl
def s_gravity_within (p0 : Int) (p1 : Int) (p2 : Int) : Bool :=
  (cond (decide (p1 ≤ p0)) (decide (p0 ≤ p2)) false)
abbrev pre_gravity_within (p0 : Int) (p1 : Int) (p2 : Int) : List Prop := []
set_option maxHeartbeats 4000000 in
theorem d_gravity_within (p0 : Int) (p1 : Int) (p2 : Int) (K : Bool → Prop) (hp : ∀ p ∈ pre_gravity_within p0 p1 p2, p) (h : K (s_gravity_within p0 p1 p2)) : w_gravity_within p0 p1 p2 K := by
  unfold w_gravity_within
  unfold s_gravity_within at h
  exact ⟨rf, rf, rfl, h⟩
abbrev con_gravity_within : Con := ⟨P_gravity_within, R_gravity_within, fun x => pre_gravity_within x.1 x.2.1 x.2.2, fun x => s_gravity_within x.1 x.2.1 x.2.2⟩
theorem ok_gravity_within : ConOk Tryd.prog 94 con_gravity_within := ⟨k_gravity_within, fun x hx => ret_tf (ps := P_gravity_within) (rs := R_gravity_within) (x := x) (y := s_gravity_within x.1 x.2.1 x.2.2) e_gravity_within hC_gravity_within (tf_of (w_gravity_within_eq x.1 x.2.1 x.2.2 (fun z => z = s_gravity_within x.1 x.2.1 x.2.2)) (d_gravity_within x.1 x.2.1 x.2.2 (fun z => z = s_gravity_within x.1 x.2.1 x.2.2) hx rfl))⟩
theorem tx_within {n lo hi : Int} : s_gravity_within n lo hi = true ↔ lo ≤ n ∧ n ≤ hi := by unfold s_gravity_within; simp
/- gravity_isSized -/
def C_gravity_isSized : Cons := [(94, [], con_gravity_within)]
theorem hC_gravity_isSized : ConsOk Tryd.prog C_gravity_isSized := ConsOk.cons ok_gravity_within <| ConsOk.nil
def w_gravity_isSized (p0 : Int) (p1 : Int) (K : Bool → Prop) : Prop :=
 (K (s_gravity_within p0 (IntKind.i64.wrap ((0 : Int) - p1)) p1))
set_option maxHeartbeats 4000000 in
theorem w_gravity_isSized_eq (p0 : Int) (p1 : Int) (K : Bool → Prop) : tfn F_gravity_isSized A_gravity_isSized C_gravity_isSized P_gravity_isSized R_gravity_isSized (p0, p1) K = w_gravity_isSized p0 p1 K := by kernel_rfl
def s_gravity_isSized (p0 : Int) (p1 : Int) : Bool :=
  (s_gravity_within p0 (IntKind.i64.wrap ((0 : Int) - p1)) p1)
abbrev pre_gravity_isSized (p0 : Int) (p1 : Int) : List Prop := []
set_option maxHeartbeats 4000000 in
theorem d_gravity_isSized (p0 : Int) (p1 : Int) (K : Bool → Prop) (hp : ∀ p ∈ pre_gravity_isSized p0 p1, p) (h : K (s_gravity_isSized p0 p1)) : w_gravity_isSized p0 p1 K := by
  unfold w_gravity_isSized
  unfold s_gravity_isSized at h
  exact h
abbrev con_gravity_isSized : Con := ⟨P_gravity_isSized, R_gravity_isSized, fun x => pre_gravity_isSized x.1 x.2, fun x => s_gravity_isSized x.1 x.2⟩
theorem ok_gravity_isSized : ConOk Tryd.prog 93 con_gravity_isSized := ⟨k_gravity_isSized, fun x hx => ret_tf (ps := P_gravity_isSized) (rs := R_gravity_isSized) (x := x) (y := s_gravity_isSized x.1 x.2) e_gravity_isSized hC_gravity_isSized (tf_of (w_gravity_isSized_eq x.1 x.2 (fun z => z = s_gravity_isSized x.1 x.2)) (d_gravity_isSized x.1 x.2 (fun z => z = s_gravity_isSized x.1 x.2) hx rfl))⟩
/- gravity_CheckFilter_1 -/
def C_gravity_CheckFilter_1 : Cons := [(93, [], con_gravity_isSized)]
theorem hC_gravity_CheckFilter_1 : ConsOk Tryd.prog C_gravity_CheckFilter_1 := ConsOk.cons ok_gravity_isSized <| ConsOk.nil
def w_gravity_CheckFilter_1 (p0 : Int) (K : Bool → Prop) : Prop :=
 (K (!(s_gravity_isSized p0 (100000 : Int))))
set_option maxHeartbeats 4000000 in
theorem w_gravity_CheckFilter_1_eq (p0 : Int) (K : Bool → Prop) : tfn F_gravity_CheckFilter_1 A_gravity_CheckFilter_1 C_gravity_CheckFilter_1 P_gravity_CheckFilter_1 R_gravity_CheckFilter_1 p0 K = w_gravity_CheckFilter_1 p0 K := by kernel_rfl
def s_gravity_CheckFilter_1 (p0 : Int) : Bool :=
  (!(s_gravity_isSized p0 (100000 : Int)))
abbrev pre_gravity_CheckFilter_1 (p0 : Int) : List Prop := []
set_option maxHeartbeats 4000000 in
theorem d_gravity_CheckFilter_1 (p0 : Int) (K : Bool → Prop) (hp : ∀ p ∈ pre_gravity_CheckFilter_1 p0, p) (h : K (s_gravity_CheckFilter_1 p0)) : w_gravity_CheckFilter_1 p0 K := by
  unfold w_gravity_CheckFilter_1
  unfold s_gravity_CheckFilter_1 at h
  exact h
abbrev con_gravity_CheckFilter_1 : Con := ⟨P_gravity_CheckFilter_1, R_gravity_CheckFilter_1, fun x => pre_gravity_CheckFilter_1 x, fun x => s_gravity_CheckFilter_1 x⟩
theorem ok_gravity_CheckFilter_1 : ConOk Tryd.prog 121 con_gravity_CheckFilter_1 := ⟨k_gravity_CheckFilter_1, fun x hx => ret_tf (ps := P_gravity_CheckFilter_1) (rs := R_gravity_CheckFilter_1) (x := x) (y := s_gravity_CheckFilter_1 x) e_gravity_CheckFilter_1 hC_gravity_CheckFilter_1 (tf_of (w_gravity_CheckFilter_1_eq x (fun z => z = s_gravity_CheckFilter_1 x)) (d_gravity_CheckFilter_1 x (fun z => z = s_gravity_CheckFilter_1 x) hx rfl))⟩
/- slices_IndexFuncint_int__gravity_CheckFilter_1 -/
def C_slices_IndexFuncint_int__gravity_CheckFilter_1 : Cons := [(121, [], con_gravity_CheckFilter_1)]
theorem hC_slices_IndexFuncint_int__gravity_CheckFilter_1 : ConsOk Tryd.prog C_slices_IndexFuncint_int__gravity_CheckFilter_1 := ConsOk.cons ok_gravity_CheckFilter_1 <| ConsOk.nil
def w_slices_IndexFuncint_int__gravity_CheckFilter_1 (p0 : (List Int)) (p1 : PUnit) (K : Int → Prop) : Prop :=
 (∃ n0, (loopP (fun (y1 : Int) k2 =>
    ((((decide (y1 < (((List.length p0) : Nat) : Int))) = true) →
    (((0 : Int) ≤ y1) ∧
      ((y1 < (((List.length p0) : Nat) : Int)) ∧
      ((((s_gravity_CheckFilter_1 (List.getD p0 (Int.toNat y1) (0 : Int))) = true) →
      (K y1)) ∧
      (((s_gravity_CheckFilter_1 (List.getD p0 (Int.toNat y1) (0 : Int))) = false) →
      (k2 (IntKind.i64.wrap (y1 + (1 : Int))))))))) ∧
    (((decide (y1 < (((List.length p0) : Nat) : Int))) = false) →
    (K (-1 : Int))))) n0 (0 : Int)))
set_option maxHeartbeats 4000000 in
theorem w_slices_IndexFuncint_int__gravity_CheckFilter_1_eq (p0 : (List Int)) (p1 : PUnit) (K : Int → Prop) : tfn F_slices_IndexFuncint_int__gravity_CheckFilter_1 A_slices_IndexFuncint_int__gravity_CheckFilter_1 C_slices_IndexFuncint_int__gravity_CheckFilter_1 P_slices_IndexFuncint_int__gravity_CheckFilter_1 R_slices_IndexFuncint_int__gravity_CheckFilter_1 (p0, p1) K = w_slices_IndexFuncint_int__gravity_CheckFilter_1 p0 p1 K := by kernel_rfl
def st_slices_IndexFuncint_int__gravity_CheckFilter_1_0 (p0 : (List Int)) (p1 : PUnit) (y0 : Int) : Int ⊕ Int :=
  (cond (decide (y0 < (((List.length p0) : Nat) : Int))) (cond (s_gravity_CheckFilter_1 (List.getD p0 (Int.toNat y0) (0 : Int))) (Sum.inr y0)
    (Sum.inl (IntKind.i64.wrap (y0 + (1 : Int)))))
    (Sum.inr (-1 : Int)))
abbrev sp_slices_IndexFuncint_int__gravity_CheckFilter_1_0 (p0 : (List Int)) (p1 : PUnit) (y0 : Int) : List Prop := [(((decide (y0 < (((List.length p0) : Nat) : Int))) = true) → ((0 : Int) ≤ y0)),
    (((decide (y0 < (((List.length p0) : Nat) : Int))) = true) → (y0 < (((List.length p0) : Nat) : Int)))]
def s_slices_IndexFuncint_int__gravity_CheckFilter_1 (p0 : (List Int)) (p1 : PUnit) : Int :=
  (lpv (0 : Int) (st_slices_IndexFuncint_int__gravity_CheckFilter_1_0 p0 p1) (0 : Int))
abbrev pre_slices_IndexFuncint_int__gravity_CheckFilter_1 (p0 : (List Int)) (p1 : PUnit) : List Prop := [(OkL (st_slices_IndexFuncint_int__gravity_CheckFilter_1_0 p0 p1) (sp_slices_IndexFuncint_int__gravity_CheckFilter_1_0 p0 p1) (0 : Int))]
set_option maxHeartbeats 4000000 in
theorem d_slices_IndexFuncint_int__gravity_CheckFilter_1 (p0 : (List Int)) (p1 : PUnit) (K : Int → Prop) (hp : ∀ p ∈ pre_slices_IndexFuncint_int__gravity_CheckFilter_1 p0 p1, p) (h : K (s_slices_IndexFuncint_int__gravity_CheckFilter_1 p0 p1)) : w_slices_IndexFuncint_int__gravity_CheckFilter_1 p0 p1 K := by
  unfold w_slices_IndexFuncint_int__gravity_CheckFilter_1
  unfold s_slices_IndexFuncint_int__gravity_CheckFilter_1 at h
  obtain ⟨hp0, _⟩ := conj_of hp
  exact (loop_gen (hp0) h (fun y0 k0 hp h => by
  unfold st_slices_IndexFuncint_int__gravity_CheckFilter_1_0 at h; obtain ⟨hp0, hp1, _⟩ := conj_of hp
  exact (br' h (fun e1 h => ⟨(hp0 e1), (hp1 e1), (br' h (fun e2 h => h)
    (fun e2 h => h))⟩)
    (fun e1 h => h))))
theorem l_slices_IndexFuncint_int__gravity_CheckFilter_1_0 (p0 : List Int) (p1 : PUnit) (hl : lenOk p0) : OkL (st_slices_IndexFuncint_int__gravity_CheckFilter_1_0 p0 p1) (sp_slices_IndexFuncint_int__gravity_CheckFilter_1_0 p0 p1) 0 ∧ lpv (0 : Int) (st_slices_IndexFuncint_int__gravity_CheckFilter_1_0 p0 p1) 0 = v_scan (fun i x => cond (s_gravity_CheckFilter_1 x) (some i) none) (-1 : Int) 0 p0 := by
  refine scan_is p0 0 (fun i x => cond (s_gravity_CheckFilter_1 x) (some i) none) (-1 : Int) hl ?_ ?_
  · refine ⟨by simp only [sp_slices_IndexFuncint_int__gravity_CheckFilter_1_0, List.forall_mem_cons, decide_eq_true_eq]; simp, by simp [st_slices_IndexFuncint_int__gravity_CheckFilter_1_0]⟩
  · intro j hj
    have hj' : (j : Int) < p0.length := by omega
    refine ⟨by simp only [sp_slices_IndexFuncint_int__gravity_CheckFilter_1_0, List.forall_mem_cons, decide_eq_true_eq, Int.toNat_natCast]; simp <;> omega, ?_⟩
    simp only [st_slices_IndexFuncint_int__gravity_CheckFilter_1_0, hj', decide_true, Int.toNat_natCast, cond_true, wrap_nat (show (j : Int) ≤ 9223372036854775806 by unfold lenOk at hl; omega)]
    generalize p0.getD j 0 = x
    cases s_gravity_CheckFilter_1 x <;> rfl
def v_idx_slices_IndexFuncint_int__gravity_CheckFilter_1 (p0 : List Int) : Int := v_scan (fun i x => cond (s_gravity_CheckFilter_1 x) (some i) none) (-1) 0 p0
abbrev t_slices_IndexFuncint_int__gravity_CheckFilter_1 (p0 : List Int) (p1 : PUnit) : Int := v_idx_slices_IndexFuncint_int__gravity_CheckFilter_1 p0
abbrev qre_slices_IndexFuncint_int__gravity_CheckFilter_1 (p0 : List Int) (p1 : PUnit) : List Prop := [lenOk p0]
theorem pp_slices_IndexFuncint_int__gravity_CheckFilter_1 (p0 : List Int) (p1 : PUnit) (hq : ∀ p ∈ qre_slices_IndexFuncint_int__gravity_CheckFilter_1 p0 p1, p) : ∀ p ∈ pre_slices_IndexFuncint_int__gravity_CheckFilter_1 p0 p1, p := by
  simp only [pre_slices_IndexFuncint_int__gravity_CheckFilter_1, List.forall_mem_cons]
  exact ⟨(l_slices_IndexFuncint_int__gravity_CheckFilter_1_0 p0 p1 (conj_of hq).1).1, by simp⟩
theorem tt_slices_IndexFuncint_int__gravity_CheckFilter_1 (p0 : List Int) (p1 : PUnit) (hq : ∀ p ∈ qre_slices_IndexFuncint_int__gravity_CheckFilter_1 p0 p1, p) : s_slices_IndexFuncint_int__gravity_CheckFilter_1 p0 p1 = t_slices_IndexFuncint_int__gravity_CheckFilter_1 p0 p1 := by
  exact (l_slices_IndexFuncint_int__gravity_CheckFilter_1_0 p0 p1 (conj_of hq).1).2

abbrev con_slices_IndexFuncint_int__gravity_CheckFilter_1 : Con := ⟨P_slices_IndexFuncint_int__gravity_CheckFilter_1, R_slices_IndexFuncint_int__gravity_CheckFilter_1, fun x => qre_slices_IndexFuncint_int__gravity_CheckFilter_1 x.1 x.2, fun x => t_slices_IndexFuncint_int__gravity_CheckFilter_1 x.1 x.2⟩
theorem ok_slices_IndexFuncint_int__gravity_CheckFilter_1 : ConOk Tryd.prog 107 con_slices_IndexFuncint_int__gravity_CheckFilter_1 := ⟨k_slices_IndexFuncint_int__gravity_CheckFilter_1, fun x hx => ret_tf (ps := P_slices_IndexFuncint_int__gravity_CheckFilter_1) (rs := R_slices_IndexFuncint_int__gravity_CheckFilter_1) (x := x) (y := t_slices_IndexFuncint_int__gravity_CheckFilter_1 x.1 x.2) e_slices_IndexFuncint_int__gravity_CheckFilter_1 hC_slices_IndexFuncint_int__gravity_CheckFilter_1 (tf_of (w_slices_IndexFuncint_int__gravity_CheckFilter_1_eq x.1 x.2 (fun z => z = t_slices_IndexFuncint_int__gravity_CheckFilter_1 x.1 x.2)) (d_slices_IndexFuncint_int__gravity_CheckFilter_1 x.1 x.2 (fun z => z = t_slices_IndexFuncint_int__gravity_CheckFilter_1 x.1 x.2) (pp_slices_IndexFuncint_int__gravity_CheckFilter_1 x.1 x.2 hx) (tt_slices_IndexFuncint_int__gravity_CheckFilter_1 x.1 x.2 hx)))⟩
/- slices_ContainsFuncint_int__gravity_CheckFilter_1 -/
def C_slices_ContainsFuncint_int__gravity_CheckFilter_1 : Cons := [(107, [121], con_slices_IndexFuncint_int__gravity_CheckFilter_1)]
theorem hC_slices_ContainsFuncint_int__gravity_CheckFilter_1 : ConsOk Tryd.prog C_slices_ContainsFuncint_int__gravity_CheckFilter_1 := ConsOk.cons ok_slices_IndexFuncint_int__gravity_CheckFilter_1 <| ConsOk.nil
def w_slices_ContainsFuncint_int__gravity_CheckFilter_1 (p0 : (List Int)) (p1 : PUnit) (K : Bool → Prop) : Prop :=
 ((lenOk p0) ∧
  (K (decide ((v_idx_slices_IndexFuncint_int__gravity_CheckFilter_1 p0) ≥ (0 : Int)))))
set_option maxHeartbeats 4000000 in
theorem w_slices_ContainsFuncint_int__gravity_CheckFilter_1_eq (p0 : (List Int)) (p1 : PUnit) (K : Bool → Prop) : tfn F_slices_ContainsFuncint_int__gravity_CheckFilter_1 A_slices_ContainsFuncint_int__gravity_CheckFilter_1 C_slices_ContainsFuncint_int__gravity_CheckFilter_1 P_slices_ContainsFuncint_int__gravity_CheckFilter_1 R_slices_ContainsFuncint_int__gravity_CheckFilter_1 (p0, p1) K = w_slices_ContainsFuncint_int__gravity_CheckFilter_1 p0 p1 K := by kernel_rfl
def s_slices_ContainsFuncint_int__gravity_CheckFilter_1 (p0 : (List Int)) (p1 : PUnit) : Bool :=
  (decide ((v_idx_slices_IndexFuncint_int__gravity_CheckFilter_1 p0) ≥ (0 : Int)))
abbrev pre_slices_ContainsFuncint_int__gravity_CheckFilter_1 (p0 : (List Int)) (p1 : PUnit) : List Prop := [(lenOk p0)]
set_option maxHeartbeats 4000000 in
theorem d_slices_ContainsFuncint_int__gravity_CheckFilter_1 (p0 : (List Int)) (p1 : PUnit) (K : Bool → Prop) (hp : ∀ p ∈ pre_slices_ContainsFuncint_int__gravity_CheckFilter_1 p0 p1, p) (h : K (s_slices_ContainsFuncint_int__gravity_CheckFilter_1 p0 p1)) : w_slices_ContainsFuncint_int__gravity_CheckFilter_1 p0 p1 K := by
  unfold w_slices_ContainsFuncint_int__gravity_CheckFilter_1
  unfold s_slices_ContainsFuncint_int__gravity_CheckFilter_1 at h
  obtain ⟨hp0, _⟩ := conj_of hp
  exact ⟨(hp0), h⟩
def v_any_slices_ContainsFuncint_int__gravity_CheckFilter_1 (p0 : List Int) : Bool := p0.any s_gravity_CheckFilter_1
abbrev t_slices_ContainsFuncint_int__gravity_CheckFilter_1 (p0 : List Int) (p1 : PUnit) : Bool := v_any_slices_ContainsFuncint_int__gravity_CheckFilter_1 p0
abbrev qre_slices_ContainsFuncint_int__gravity_CheckFilter_1 (p0 : List Int) (p1 : PUnit) : List Prop := [lenOk p0]
theorem pp_slices_ContainsFuncint_int__gravity_CheckFilter_1 (p0 : List Int) (p1 : PUnit) (hq : ∀ p ∈ qre_slices_ContainsFuncint_int__gravity_CheckFilter_1 p0 p1, p) : ∀ p ∈ pre_slices_ContainsFuncint_int__gravity_CheckFilter_1 p0 p1, p := by
  simpa only [pre_slices_ContainsFuncint_int__gravity_CheckFilter_1] using hq
theorem tt_slices_ContainsFuncint_int__gravity_CheckFilter_1 (p0 : List Int) (p1 : PUnit) (hq : ∀ p ∈ qre_slices_ContainsFuncint_int__gravity_CheckFilter_1 p0 p1, p) : s_slices_ContainsFuncint_int__gravity_CheckFilter_1 p0 p1 = t_slices_ContainsFuncint_int__gravity_CheckFilter_1 p0 p1 := by
  unfold s_slices_ContainsFuncint_int__gravity_CheckFilter_1 t_slices_ContainsFuncint_int__gravity_CheckFilter_1 v_any_slices_ContainsFuncint_int__gravity_CheckFilter_1
  exact v_scan_idx p0 0 (Int.le_refl 0)

abbrev con_slices_ContainsFuncint_int__gravity_CheckFilter_1 : Con := ⟨P_slices_ContainsFuncint_int__gravity_CheckFilter_1, R_slices_ContainsFuncint_int__gravity_CheckFilter_1, fun x => qre_slices_ContainsFuncint_int__gravity_CheckFilter_1 x.1 x.2, fun x => t_slices_ContainsFuncint_int__gravity_CheckFilter_1 x.1 x.2⟩
theorem ok_slices_ContainsFuncint_int__gravity_CheckFilter_1 : ConOk Tryd.prog 91 con_slices_ContainsFuncint_int__gravity_CheckFilter_1 := ⟨k_slices_ContainsFuncint_int__gravity_CheckFilter_1, fun x hx => ret_tf (ps := P_slices_ContainsFuncint_int__gravity_CheckFilter_1) (rs := R_slices_ContainsFuncint_int__gravity_CheckFilter_1) (x := x) (y := t_slices_ContainsFuncint_int__gravity_CheckFilter_1 x.1 x.2) e_slices_ContainsFuncint_int__gravity_CheckFilter_1 hC_slices_ContainsFuncint_int__gravity_CheckFilter_1 (tf_of (w_slices_ContainsFuncint_int__gravity_CheckFilter_1_eq x.1 x.2 (fun z => z = t_slices_ContainsFuncint_int__gravity_CheckFilter_1 x.1 x.2)) (d_slices_ContainsFuncint_int__gravity_CheckFilter_1 x.1 x.2 (fun z => z = t_slices_ContainsFuncint_int__gravity_CheckFilter_1 x.1 x.2) (pp_slices_ContainsFuncint_int__gravity_CheckFilter_1 x.1 x.2 hx) (tt_slices_ContainsFuncint_int__gravity_CheckFilter_1 x.1 x.2 hx)))⟩
/- gravity_unless -/
def C_gravity_unless : Cons := []
theorem hC_gravity_unless : ConsOk Tryd.prog C_gravity_unless := ConsOk.nil
def w_gravity_unless (p0 : Bool) (p1 : Int) (K : Int → Prop) : Prop :=
 (((p0 = true) →
  (K (0 : Int))) ∧
  ((p0 = false) →
  (K p1)))
set_option maxHeartbeats 4000000 in
theorem w_gravity_unless_eq (p0 : Bool) (p1 : Int) (K : Int → Prop) : tfn F_gravity_unless A_gravity_unless C_gravity_unless P_gravity_unless R_gravity_unless (p0, p1) K = w_gravity_unless p0 p1 K := by kernel_rfl
def s_gravity_unless (p0 : Bool) (p1 : Int) : Int :=
  (cond p0 (0 : Int)
    p1)
abbrev pre_gravity_unless (p0 : Bool) (p1 : Int) : List Prop := []
set_option maxHeartbeats 4000000 in
theorem d_gravity_unless (p0 : Bool) (p1 : Int) (K : Int → Prop) (hp : ∀ p ∈ pre_gravity_unless p0 p1, p) (h : K (s_gravity_unless p0 p1)) : w_gravity_unless p0 p1 K := by
  unfold w_gravity_unless
  unfold s_gravity_unless at h
  exact (br' h (fun e0 h => h)
    (fun e0 h => h))
abbrev con_gravity_unless : Con := ⟨P_gravity_unless, R_gravity_unless, fun x => pre_gravity_unless x.1 x.2, fun x => s_gravity_unless x.1 x.2⟩
theorem ok_gravity_unless : ConOk Tryd.prog 89 con_gravity_unless := ⟨k_gravity_unless, fun x hx => ret_tf (ps := P_gravity_unless) (rs := R_gravity_unless) (x := x) (y := s_gravity_unless x.1 x.2) e_gravity_unless hC_gravity_unless (tf_of (w_gravity_unless_eq x.1 x.2 (fun z => z = s_gravity_unless x.1 x.2)) (d_gravity_unless x.1 x.2 (fun z => z = s_gravity_unless x.1 x.2) hx rfl))⟩
theorem tx_unless0' {a : Bool} {x : Int} (hx : x ≠ 0) (h : s_gravity_unless a x = 0) : a = true := by
  cases a
  · exact (hx h).elim
  · rfl
/- gravity_first -/
def C_gravity_first : Cons := []
theorem hC_gravity_first : ConsOk Tryd.prog C_gravity_first := ConsOk.nil
def w_gravity_first (p0 : (List Int)) (K : Int → Prop) : Prop :=
 (∃ n0, (loopP (fun (y1 : Int) k2 =>
    ((((decide (y1 < (((List.length p0) : Nat) : Int))) = true) →
    (((0 : Int) ≤ y1) ∧
      ((y1 < (((List.length p0) : Nat) : Int)) ∧
      (((((List.getD p0 (Int.toNat y1) (0 : Int)) != (0 : Int)) = true) →
      (K (List.getD p0 (Int.toNat y1) (0 : Int)))) ∧
      ((((List.getD p0 (Int.toNat y1) (0 : Int)) != (0 : Int)) = false) →
      (k2 (IntKind.i64.wrap (y1 + (1 : Int))))))))) ∧
    (((decide (y1 < (((List.length p0) : Nat) : Int))) = false) →
    (K (0 : Int))))) n0 (0 : Int)))
set_option maxHeartbeats 4000000 in
theorem w_gravity_first_eq (p0 : (List Int)) (K : Int → Prop) : tfn F_gravity_first A_gravity_first C_gravity_first P_gravity_first R_gravity_first p0 K = w_gravity_first p0 K := by kernel_rfl
def st_gravity_first_0 (p0 : (List Int)) (y0 : Int) : Int ⊕ Int :=
  (cond (decide (y0 < (((List.length p0) : Nat) : Int))) (cond ((List.getD p0 (Int.toNat y0) (0 : Int)) != (0 : Int)) (Sum.inr (List.getD p0 (Int.toNat y0) (0 : Int)))
    (Sum.inl (IntKind.i64.wrap (y0 + (1 : Int)))))
    (Sum.inr (0 : Int)))
abbrev sp_gravity_first_0 (p0 : (List Int)) (y0 : Int) : List Prop := [(((decide (y0 < (((List.length p0) : Nat) : Int))) = true) → ((0 : Int) ≤ y0)),
    (((decide (y0 < (((List.length p0) : Nat) : Int))) = true) → (y0 < (((List.length p0) : Nat) : Int)))]
def s_gravity_first (p0 : (List Int)) : Int :=
  (lpv (0 : Int) (st_gravity_first_0 p0) (0 : Int))
abbrev pre_gravity_first (p0 : (List Int)) : List Prop := [(OkL (st_gravity_first_0 p0) (sp_gravity_first_0 p0) (0 : Int))]
set_option maxHeartbeats 4000000 in
theorem d_gravity_first (p0 : (List Int)) (K : Int → Prop) (hp : ∀ p ∈ pre_gravity_first p0, p) (h : K (s_gravity_first p0)) : w_gravity_first p0 K := by
  unfold w_gravity_first
  unfold s_gravity_first at h
  obtain ⟨hp0, _⟩ := conj_of hp
  exact (loop_gen (hp0) h (fun y0 k0 hp h => by
  unfold st_gravity_first_0 at h; obtain ⟨hp0, hp1, _⟩ := conj_of hp
  exact (br' h (fun e1 h => ⟨(hp0 e1), (hp1 e1), (br' h (fun e2 h => h)
    (fun e2 h => h))⟩)
    (fun e1 h => h))))
theorem l_gravity_first_0 (p0 : List Int) (hl : lenOk p0) : OkL (st_gravity_first_0 p0) (sp_gravity_first_0 p0) 0 ∧ lpv (0 : Int) (st_gravity_first_0 p0) 0 = v_scan (fun _ x => cond (x != 0) (some x) none) (0 : Int) 0 p0 := by
  refine scan_is p0 0 (fun _ x => cond (x != 0) (some x) none) (0 : Int) hl ?_ ?_
  · refine ⟨by simp only [sp_gravity_first_0, List.forall_mem_cons, decide_eq_true_eq]; simp, by simp [st_gravity_first_0]⟩
  · intro j hj
    have hj' : (j : Int) < p0.length := by omega
    refine ⟨by simp only [sp_gravity_first_0, List.forall_mem_cons, decide_eq_true_eq, Int.toNat_natCast]; simp <;> omega, ?_⟩
    simp only [st_gravity_first_0, hj', decide_true, Int.toNat_natCast, cond_true, wrap_nat (show (j : Int) ≤ 9223372036854775806 by unfold lenOk at hl; omega)]
    generalize p0.getD j 0 = x
    cases (x != 0) <;> rfl
abbrev t_gravity_first (p0 : List Int) : Int := v_first p0
abbrev qre_gravity_first (p0 : List Int) : List Prop := [lenOk p0]
theorem pp_gravity_first (p0 : List Int) (hq : ∀ p ∈ qre_gravity_first p0, p) : ∀ p ∈ pre_gravity_first p0, p := by
  simp only [pre_gravity_first, List.forall_mem_cons]
  exact ⟨(l_gravity_first_0 p0 (conj_of hq).1).1, by simp⟩
theorem tt_gravity_first (p0 : List Int) (hq : ∀ p ∈ qre_gravity_first p0, p) : s_gravity_first p0 = t_gravity_first p0 := by
  exact (l_gravity_first_0 p0 (conj_of hq).1).2.trans (v_first_scan p0 0)

abbrev con_gravity_first : Con := ⟨P_gravity_first, R_gravity_first, fun x => qre_gravity_first x, fun x => t_gravity_first x⟩
theorem ok_gravity_first : ConOk Tryd.prog 88 con_gravity_first := ⟨k_gravity_first, fun x hx => ret_tf (ps := P_gravity_first) (rs := R_gravity_first) (x := x) (y := t_gravity_first x) e_gravity_first hC_gravity_first (tf_of (w_gravity_first_eq x (fun z => z = t_gravity_first x)) (d_gravity_first x (fun z => z = t_gravity_first x) (pp_gravity_first x hx) (tt_gravity_first x hx)))⟩
/- slices_Cloneint_int -/
def C_slices_Cloneint_int : Cons := []
theorem hC_slices_Cloneint_int : ConsOk Tryd.prog C_slices_Cloneint_int := ConsOk.nil
def w_slices_Cloneint_int (p0 : (List Int)) (K : (List Int) → Prop) : Prop :=
 ((((List.length p0) = 0) →
  (K ([] : List Int))) ∧
  (((((List.length ([] : List Int)) + (List.length p0)) * 8) ≤ 140737488355328) ∧
  (K (([] : List Int) ++ p0))))
set_option maxHeartbeats 4000000 in
theorem w_slices_Cloneint_int_eq (p0 : (List Int)) (K : (List Int) → Prop) : tfnO F_slices_Cloneint_int A_slices_Cloneint_int C_slices_Cloneint_int P_slices_Cloneint_int E_slices_Cloneint_int p0 K = w_slices_Cloneint_int p0 K := by kernel_rfl
def s_slices_Cloneint_int (p0 : List Int) : List Int := p0
abbrev pre_slices_Cloneint_int (p0 : List Int) : List Prop := [p0.length ≤ 1000000]
theorem d_slices_Cloneint_int (p0 : List Int) (K : List Int → Prop) (hp : ∀ p ∈ pre_slices_Cloneint_int p0, p) (h : K (s_slices_Cloneint_int p0)) : w_slices_Cloneint_int p0 K := by
  have h1 := (conj_of hp).1
  refine ⟨fun e => ?_, by simp only [List.length_nil]; omega, h⟩
  have : p0 = [] := List.eq_nil_of_length_eq_zero e
  subst this; exact h

abbrev con_slices_Cloneint_int : Con := ⟨P_slices_Cloneint_int, [.one (.sl E_slices_Cloneint_int)], fun x => pre_slices_Cloneint_int x, fun x => s_slices_Cloneint_int x⟩
theorem ok_slices_Cloneint_int : ConOOk Tryd.prog 125 con_slices_Cloneint_int := conO_tf (e := E_slices_Cloneint_int) (ps := P_slices_Cloneint_int) k_slices_Cloneint_int e_slices_Cloneint_int hC_slices_Cloneint_int (fun x hx => tfo_of (w_slices_Cloneint_int_eq x (fun z => z = s_slices_Cloneint_int x)) (d_slices_Cloneint_int x (fun z => z = s_slices_Cloneint_int x) hx rfl))
/- slices_Reverseint_int -/
def C_slices_Reverseint_int : Cons := []
theorem hC_slices_Reverseint_int : ConsOk Tryd.prog C_slices_Reverseint_int := ConsOk.nil
def w_slices_Reverseint_int (p0 : (List Int)) (K : (List Int) → Prop) : Prop :=
 (∃ n0, (loopP (fun (y1 : (Int × (Int × (List Int)))) k2 =>
    ((((decide (y1.2.1 < y1.1)) = true) →
    (((0 : Int) ≤ y1.1) ∧
      ((y1.1 < (((List.length y1.2.2) : Nat) : Int)) ∧
      (((0 : Int) ≤ y1.2.1) ∧
      ((y1.2.1 < (((List.length y1.2.2) : Nat) : Int)) ∧
      (((0 : Int) ≤ y1.2.1) ∧
      ((y1.2.1 < (((List.length y1.2.2) : Nat) : Int)) ∧
      (((0 : Int) ≤ y1.1) ∧
      ((y1.1 < (((List.length (List.set y1.2.2 (Int.toNat y1.2.1) (List.getD y1.2.2 (Int.toNat y1.1) (0 : Int)))) : Nat) : Int)) ∧
      (k2 ((IntKind.i64.wrap (y1.1 - (1 : Int))), ((IntKind.i64.wrap (y1.2.1 + (1 : Int))), (List.set (List.set y1.2.2 (Int.toNat y1.2.1) (List.getD y1.2.2 (Int.toNat y1.1) (0 : Int))) (Int.toNat y1.1) (List.getD y1.2.2 (Int.toNat y1.2.1) (0 : Int))))))))))))))) ∧
    (((decide (y1.2.1 < y1.1)) = false) →
    (K y1.2.2)))) n0 ((IntKind.i64.wrap ((((List.length p0) : Nat) : Int) - (1 : Int))), ((0 : Int), p0))))
set_option maxHeartbeats 4000000 in
theorem w_slices_Reverseint_int_eq (p0 : (List Int)) (K : (List Int) → Prop) : tfnN F_slices_Reverseint_int A_slices_Reverseint_int C_slices_Reverseint_int 1 P_slices_Reverseint_int R_slices_Reverseint_int p0 K = w_slices_Reverseint_int p0 K := by kernel_rfl
def st_slices_Reverseint_int_0 (p0 : (List Int)) (y0 : (Int × (Int × (List Int)))) : (Int × (Int × (List Int))) ⊕ (List Int) :=
  (cond (decide (y0.2.1 < y0.1)) (Sum.inl ((IntKind.i64.wrap (y0.1 - (1 : Int))), ((IntKind.i64.wrap (y0.2.1 + (1 : Int))), (List.set (List.set y0.2.2 (Int.toNat y0.2.1) (List.getD y0.2.2 (Int.toNat y0.1) (0 : Int))) (Int.toNat y0.1) (List.getD y0.2.2 (Int.toNat y0.2.1) (0 : Int))))))
    (Sum.inr y0.2.2))
abbrev sp_slices_Reverseint_int_0 (p0 : (List Int)) (y0 : (Int × (Int × (List Int)))) : List Prop := [(((decide (y0.2.1 < y0.1)) = true) → ((0 : Int) ≤ y0.1)),
    (((decide (y0.2.1 < y0.1)) = true) → (y0.1 < (((List.length y0.2.2) : Nat) : Int))),
    (((decide (y0.2.1 < y0.1)) = true) → ((0 : Int) ≤ y0.2.1)),
    (((decide (y0.2.1 < y0.1)) = true) → (y0.2.1 < (((List.length y0.2.2) : Nat) : Int))),
    (((decide (y0.2.1 < y0.1)) = true) → (y0.1 < (((List.length (List.set y0.2.2 (Int.toNat y0.2.1) (List.getD y0.2.2 (Int.toNat y0.1) (0 : Int)))) : Nat) : Int)))]
def s_slices_Reverseint_int (p0 : (List Int)) : (List Int) :=
  (lpv [] (st_slices_Reverseint_int_0 p0) ((IntKind.i64.wrap ((((List.length p0) : Nat) : Int) - (1 : Int))), ((0 : Int), p0)))
abbrev pre_slices_Reverseint_int (p0 : (List Int)) : List Prop := [(OkL (st_slices_Reverseint_int_0 p0) (sp_slices_Reverseint_int_0 p0) ((IntKind.i64.wrap ((((List.length p0) : Nat) : Int) - (1 : Int))), ((0 : Int), p0)))]
set_option maxHeartbeats 4000000 in
theorem d_slices_Reverseint_int (p0 : (List Int)) (K : (List Int) → Prop) (hp : ∀ p ∈ pre_slices_Reverseint_int p0, p) (h : K (s_slices_Reverseint_int p0)) : w_slices_Reverseint_int p0 K := by
  unfold w_slices_Reverseint_int
  unfold s_slices_Reverseint_int at h
  obtain ⟨hp0, _⟩ := conj_of hp
  exact (loop_gen (hp0) h (fun y0 k0 hp h => by
  unfold st_slices_Reverseint_int_0 at h; obtain ⟨hp0, hp1, hp2, hp3, hp4, _⟩ := conj_of hp
  exact (br' h (fun e1 h => ⟨(hp0 e1), (hp1 e1), (hp2 e1), (hp3 e1), (hp2 e1), (hp3 e1), (hp0 e1), (hp4 e1), h⟩)
    (fun e1 h => h))))
def v_rev (l : List Int) : List Int := l.reverse
theorem l_slices_Reverseint_int (p0 : List Int) (h : p0.length ≤ 1000000) : OkL (st_slices_Reverseint_int_0 p0) (sp_slices_Reverseint_int_0 p0) ((IntKind.i64.wrap ((((List.length p0) : Nat) : Int) - (1 : Int))), ((0 : Int), p0)) ∧ s_slices_Reverseint_int p0 = p0.reverse := by
  unfold s_slices_Reverseint_int
  rw [wrap_id (show -9223372036854775808 ≤ (p0.length : Int) - 1 by omega) (by omega)]
  refine loop_is (fun y : Int × Int × List Int => ∃ i : Nat, y.2.1 = i ∧ y.1 = p0.length - 1 - i ∧ 2 * i ≤ p0.length + 1 ∧ y.2.2.length = p0.length ∧ ∀ k, k < p0.length → y.2.2.getD k 0 = p0.getD (if k < i ∨ p0.length ≤ k + i then p0.length - 1 - k else k) 0) (fun y => (y.1 + 1).toNat) (fun _ => p0.reverse) ?_ ⟨0, rfl, by simp, by omega, rfl, fun k hk => by rw [if_neg (by omega)]⟩ (by unfold fuel; simp only; omega)
  rintro ⟨j, i', l⟩ ⟨i, h1, h2, h3, h4, h5⟩
  simp only at h1 h2 h4 h5
  subst h1
  by_cases c : (i : Int) < j
  · obtain ⟨q, hq⟩ : ∃ q : Nat, j = q := ⟨j.toNat, by omega⟩
    subst hq
    refine ⟨by simp only [sp_slices_Reverseint_int_0, List.forall_mem_cons, List.length_set]; exact ⟨fun _ => by omega, fun _ => by omega, fun _ => by omega, fun _ => by omega, fun _ => by omega, by simp⟩, ?_⟩
    simp only [st_slices_Reverseint_int_0, c, decide_true, cond_true, Int.toNat_natCast, wrap_nat (show (i : Int) ≤ 9223372036854775806 by omega), wrap_id (show -9223372036854775808 ≤ (q : Int) - 1 by omega) (show (q : Int) - 1 ≤ 9223372036854775807 by omega)]
    refine ⟨⟨i + 1, rfl, by omega, by omega, by simp [h4], fun k hk => ?_⟩, by omega, trivial⟩
    rw [gd_set (by simp; omega), gd_set (by omega)]
    by_cases k1 : k = q
    · rw [if_pos k1, h5 i (by omega), if_neg (by omega), if_pos (by omega)]
      congr 1; omega
    · rw [if_neg k1]
      by_cases k2 : k = i
      · rw [if_pos k2, h5 q (by omega), if_neg (by omega), if_pos (by omega)]
        congr 1; omega
      · rw [if_neg k2, h5 k hk]
        by_cases k3 : k < i ∨ p0.length ≤ k + i
        · rw [if_pos k3, if_pos (by omega)]
        · rw [if_neg k3, if_neg (by omega)]
  · refine ⟨by simp only [sp_slices_Reverseint_int_0, List.forall_mem_cons, c, decide_false]; simp, ?_⟩
    simp only [st_slices_Reverseint_int_0, c, decide_false, cond_false]
    refine gd_ext 0 (by simp [h4]) fun k hk => ?_
    rw [List.length_reverse] at hk
    rw [gd_rev hk, h5 k hk]
    by_cases k3 : k < i ∨ p0.length ≤ k + i
    · rw [if_pos k3]
    · rw [if_neg k3]; congr 1; omega
abbrev t_slices_Reverseint_int (p0 : List Int) : List Int := v_rev p0
abbrev qre_slices_Reverseint_int (p0 : List Int) : List Prop := [p0.length ≤ 1000000]
theorem pp_slices_Reverseint_int (p0 : List Int) (hq : ∀ p ∈ qre_slices_Reverseint_int p0, p) : ∀ p ∈ pre_slices_Reverseint_int p0, p := by
  simp only [pre_slices_Reverseint_int, List.forall_mem_cons]
  exact ⟨(l_slices_Reverseint_int p0 (conj_of hq).1).1, by simp⟩
theorem tt_slices_Reverseint_int (p0 : List Int) (hq : ∀ p ∈ qre_slices_Reverseint_int p0, p) : s_slices_Reverseint_int p0 = t_slices_Reverseint_int p0 := by
  exact (l_slices_Reverseint_int p0 (conj_of hq).1).2
theorem hl_slices_Reverseint_int (p0 : List Int) (_ : ∀ p ∈ qre_slices_Reverseint_int p0, p) : ((valPs R_slices_Reverseint_int (t_slices_Reverseint_int p0)).drop (R_slices_Reverseint_int.length - 1)).map (fun v => (slEs v).length) = ((valPs P_slices_Reverseint_int p0).drop (P_slices_Reverseint_int.length - 1)).map (fun v => (slEs v).length) := by
  simp [valPs, valP, slEs, Ty.enc, t_slices_Reverseint_int, v_rev]

abbrev con_slices_Reverseint_int : Con := ⟨P_slices_Reverseint_int, R_slices_Reverseint_int, fun x => qre_slices_Reverseint_int x, fun x => t_slices_Reverseint_int x⟩
theorem ok_slices_Reverseint_int : ConNOk Tryd.prog 129 1 con_slices_Reverseint_int := conN_tf k_slices_Reverseint_int e_slices_Reverseint_int hC_slices_Reverseint_int con_slices_Reverseint_int (by decide) (by decide) rfl rfl (fun x hx => tfN_of (w_slices_Reverseint_int_eq x (fun z => z = t_slices_Reverseint_int x)) (d_slices_Reverseint_int x (fun z => z = t_slices_Reverseint_int x) (pp_slices_Reverseint_int x hx) (tt_slices_Reverseint_int x hx))) (fun x hx => hl_slices_Reverseint_int x hx)
/- gravity_both -/
def C_gravity_both : Cons := [(125, ownMark, con_slices_Cloneint_int), (129, nMark 1, con_slices_Reverseint_int)]
theorem hC_gravity_both : ConsOk Tryd.prog C_gravity_both := ConsOk.consO ok_slices_Cloneint_int <| ConsOk.consN ok_slices_Reverseint_int <| ConsOk.nil
def w_gravity_both (p0 : (List Int)) (K : (List Int) → Prop) : Prop :=
 (((List.length p0) ≤ 1000000) ∧
  ((0 < (List.length p0)) ∧
  (((List.length p0) ≤ 1000000) ∧
  (((0 : Int) ≤ (1 : Int)) ∧
  (((1 : Int) ≤ (((List.length p0) : Nat) : Int)) ∧
  (((((List.length (v_rev p0)) + (List.length (List.drop (Int.toNat (1 : Int)) p0))) * 8) ≤ 140737488355328) ∧
  (K ((v_rev p0) ++ (List.drop (Int.toNat (1 : Int)) p0)))))))))
set_option maxHeartbeats 4000000 in
theorem w_gravity_both_eq (p0 : (List Int)) (K : (List Int) → Prop) : tfnO F_gravity_both A_gravity_both C_gravity_both P_gravity_both E_gravity_both p0 K = w_gravity_both p0 K := by kernel_rfl
def s_gravity_both (p0 : (List Int)) : (List Int) :=
  ((v_rev p0) ++ (List.drop (Int.toNat (1 : Int)) p0))
abbrev pre_gravity_both (p0 : (List Int)) : List Prop := [((List.length p0) ≤ 1000000),
    (0 < (List.length p0)),
    ((1 : Int) ≤ (((List.length p0) : Nat) : Int)),
    ((((List.length (v_rev p0)) + (List.length (List.drop (Int.toNat (1 : Int)) p0))) * 8) ≤ 140737488355328)]
set_option maxHeartbeats 4000000 in
theorem d_gravity_both (p0 : (List Int)) (K : (List Int) → Prop) (hp : ∀ p ∈ pre_gravity_both p0, p) (h : K (s_gravity_both p0)) : w_gravity_both p0 K := by
  unfold w_gravity_both
  unfold s_gravity_both at h
  obtain ⟨hp0, hp1, hp2, hp3, _⟩ := conj_of hp
  exact ⟨(hp0), (hp1), (hp0), (od rfl), (hp2), (hp3), h⟩
/-- The weight of a neighbour on either side, 0 beyond the last one. -/
def v_at (f : List Int) (k : Int) : Int := f.getD k.natAbs 0
theorem v_at_out {f : List Int} {k : Int} (h : f.length ≤ k.natAbs) : v_at f k = 0 := gd_out _ h
theorem v_at_in {f : List Int} {m : Int} (hm : 0 ≤ m) (h : ∀ x ∈ f, -m ≤ x ∧ x ≤ m) (k : Int) : -m ≤ v_at f k ∧ v_at f k ≤ m := by
  by_cases c : k.natAbs < f.length
  · exact h _ (getD_mem' 0 c)
  · rw [v_at_out (by omega)]; omega
/-- The weights on both sides. -/
def v_both (f : List Int) : List Int := f.reverse ++ f.drop 1
theorem v_both_len {f : List Int} (h : 1 ≤ f.length) : (v_both f).length = 2 * f.length - 1 := by simp [v_both]; omega
theorem v_both_at {f : List Int} {k : Nat} (h : k < 2 * f.length - 1) : (v_both f).getD k 0 = v_at f ((k : Int) - ((f.length : Int) - 1)) := by
  unfold v_both v_at
  rw [gd_app, List.length_reverse]
  by_cases c : k < f.length
  · rw [if_pos c, gd_rev c]; congr 1; omega
  · rw [if_neg c, gd_drop]; congr 1; omega
/-- Weights. -/
structure v_fw (f : List Int) : Prop where
  one : 1 ≤ f.length
  nine : f.length ≤ 9
  all : ∀ x ∈ f, -100000 ≤ x ∧ x ≤ 100000
theorem v_fw.at {f : List Int} (h : v_fw f) (k : Int) : -100000 ≤ v_at f k ∧ v_at f k ≤ 100000 := v_at_in (by decide) h.all k
/-- The sum of a filter. -/
def v_fsum (f : List Int) : Int := v_sums (fun j => v_at f ((j : Int) - ((f.length : Int) - 1))) 0 (2 * f.length - 1)
abbrev t_gravity_both (p0 : List Int) : List Int := v_both p0
abbrev qre_gravity_both (p0 : List Int) : List Prop := [1 ≤ p0.length ∧ p0.length ≤ 1000000]
theorem pp_gravity_both (p0 : List Int) (hq : ∀ p ∈ qre_gravity_both p0, p) : ∀ p ∈ pre_gravity_both p0, p := by
  have h := (conj_of hq).1
  simp only [pre_gravity_both, List.forall_mem_cons]
  exact ⟨h.2, by omega, by omega, by simp [v_rev]; omega, by simp⟩
theorem tt_gravity_both (p0 : List Int) (hq : ∀ p ∈ qre_gravity_both p0, p) : s_gravity_both p0 = t_gravity_both p0 := by
  rfl

abbrev con_gravity_both : Con := ⟨P_gravity_both, [.one (.sl E_gravity_both)], fun x => qre_gravity_both x, fun x => t_gravity_both x⟩
theorem ok_gravity_both : ConOOk Tryd.prog 90 con_gravity_both := conO_tf (e := E_gravity_both) (ps := P_gravity_both) k_gravity_both e_gravity_both hC_gravity_both (fun x hx => tfo_of (w_gravity_both_eq x (fun z => z = t_gravity_both x)) (d_gravity_both x (fun z => z = t_gravity_both x) (pp_gravity_both x hx) (tt_gravity_both x hx)))
/- gravity_sum -/
def C_gravity_sum : Cons := [(90, ownMark, con_gravity_both)]
theorem hC_gravity_sum : ConsOk Tryd.prog C_gravity_sum := ConsOk.consO ok_gravity_both <| ConsOk.nil
def w_gravity_sum (p0 : (List Int)) (K : Int → Prop) : Prop :=
 (((1 ≤ (List.length p0)) ∧
  ((List.length p0) ≤ 1000000)) ∧
  (∃ n0, (loopP (fun (y1 : (Int × Int)) k2 =>
    ((((decide (y1.1 < (((List.length (v_both p0)) : Nat) : Int))) = true) →
    (((0 : Int) ≤ y1.1) ∧
      ((y1.1 < (((List.length (v_both p0)) : Nat) : Int)) ∧
      (k2 ((IntKind.i64.wrap (y1.1 + (1 : Int))), (IntKind.i64.wrap (y1.2 + (List.getD (v_both p0) (Int.toNat y1.1) (0 : Int))))))))) ∧
    (((decide (y1.1 < (((List.length (v_both p0)) : Nat) : Int))) = false) →
    (K y1.2)))) n0 ((0 : Int), (0 : Int)))))
set_option maxHeartbeats 4000000 in
theorem w_gravity_sum_eq (p0 : (List Int)) (K : Int → Prop) : tfn F_gravity_sum A_gravity_sum C_gravity_sum P_gravity_sum R_gravity_sum p0 K = w_gravity_sum p0 K := by kernel_rfl
def st_gravity_sum_0 (p0 : (List Int)) (y0 : (Int × Int)) : (Int × Int) ⊕ Int :=
  (cond (decide (y0.1 < (((List.length (v_both p0)) : Nat) : Int))) (Sum.inl ((IntKind.i64.wrap (y0.1 + (1 : Int))), (IntKind.i64.wrap (y0.2 + (List.getD (v_both p0) (Int.toNat y0.1) (0 : Int))))))
    (Sum.inr y0.2))
abbrev sp_gravity_sum_0 (p0 : (List Int)) (y0 : (Int × Int)) : List Prop := [(((decide (y0.1 < (((List.length (v_both p0)) : Nat) : Int))) = true) → ((0 : Int) ≤ y0.1)),
    (((decide (y0.1 < (((List.length (v_both p0)) : Nat) : Int))) = true) → (y0.1 < (((List.length (v_both p0)) : Nat) : Int)))]
def s_gravity_sum (p0 : (List Int)) : Int :=
  (lpv (0 : Int) (st_gravity_sum_0 p0) ((0 : Int), (0 : Int)))
abbrev pre_gravity_sum (p0 : (List Int)) : List Prop := [((1 ≤ (List.length p0)) ∧ ((List.length p0) ≤ 1000000)),
    (OkL (st_gravity_sum_0 p0) (sp_gravity_sum_0 p0) ((0 : Int), (0 : Int)))]
set_option maxHeartbeats 4000000 in
theorem d_gravity_sum (p0 : (List Int)) (K : Int → Prop) (hp : ∀ p ∈ pre_gravity_sum p0, p) (h : K (s_gravity_sum p0)) : w_gravity_sum p0 K := by
  unfold w_gravity_sum
  unfold s_gravity_sum at h
  obtain ⟨hp0, hp1, _⟩ := conj_of hp
  exact ⟨(hp0), (loop_gen (hp1) h (fun y0 k0 hp h => by
  unfold st_gravity_sum_0 at h; obtain ⟨hp0, hp1, _⟩ := conj_of hp
  exact (br' h (fun e1 h => ⟨(hp0 e1), (hp1 e1), h⟩)
    (fun e1 h => h))))⟩
theorem l_gravity_sum (p0 : List Int) (h : v_fw p0) : OkL (st_gravity_sum_0 p0) (sp_gravity_sum_0 p0) (0, 0) ∧ s_gravity_sum p0 = v_fsum p0 := by
  have h1 := h.one
  have h2 := h.nine
  have hl := v_both_len h1
  refine for_is (fun i t => (i, t)) 0 (2 * p0.length - 1) (fun j t => t = v_sums (fun j => v_at p0 ((j : Int) - ((p0.length : Int) - 1))) 0 j) (fun _ _ => v_fsum p0) (by omega) (by omega) ?_ ?_ 0 rfl
  · intro t ht
    have hd : decide (((2 * p0.length - 1 : Nat) : Int) < ((v_both p0).length : Nat)) = false := decide_eq_false (by omega)
    refine ⟨by simp only [sp_gravity_sum_0, List.forall_mem_cons, hd]; simp, ?_⟩
    simp only [st_gravity_sum_0, hd, cond_false]
    rw [ht]; rfl
  · intro j t _ hj ht
    have hd : decide ((j : Int) < ((v_both p0).length : Nat)) = true := decide_eq_true (by omega)
    refine ⟨by simp only [sp_gravity_sum_0, List.forall_mem_cons, hd]; exact ⟨fun _ => by omega, fun _ => by omega, by simp⟩, .inl ⟨_, ?_, rfl, rfl⟩⟩
    have hb := v_sums_in (f := fun j => v_at p0 ((j : Int) - ((p0.length : Int) - 1))) (m := 100000) j 0 (fun k _ _ => h.at _)
    have ha := h.at ((j : Int) - ((p0.length : Int) - 1))
    simp only [st_gravity_sum_0, hd, cond_true, Int.toNat_natCast, wrap_nat (show (j : Int) ≤ 9223372036854775806 by omega)]
    rw [v_both_at hj, ht, v_sums_last, Nat.zero_add, wrap_id (by omega) (by omega)]
abbrev t_gravity_sum (p0 : List Int) : Int := v_fsum p0
abbrev qre_gravity_sum (p0 : List Int) : List Prop := [v_fw p0]
theorem pp_gravity_sum (p0 : List Int) (hq : ∀ p ∈ qre_gravity_sum p0, p) : ∀ p ∈ pre_gravity_sum p0, p := by
  have h := (conj_of hq).1
  have h1 := h.one
  have h2 := h.nine
  simp only [pre_gravity_sum, List.forall_mem_cons]
  exact ⟨by omega, (l_gravity_sum p0 h).1, by simp⟩
theorem tt_gravity_sum (p0 : List Int) (hq : ∀ p ∈ qre_gravity_sum p0, p) : s_gravity_sum p0 = t_gravity_sum p0 := by
  exact (l_gravity_sum p0 (conj_of hq).1).2

abbrev con_gravity_sum : Con := ⟨P_gravity_sum, R_gravity_sum, fun x => qre_gravity_sum x, fun x => t_gravity_sum x⟩
theorem ok_gravity_sum : ConOk Tryd.prog 116 con_gravity_sum := ⟨k_gravity_sum, fun x hx => ret_tf (ps := P_gravity_sum) (rs := R_gravity_sum) (x := x) (y := t_gravity_sum x) e_gravity_sum hC_gravity_sum (tf_of (w_gravity_sum_eq x (fun z => z = t_gravity_sum x)) (d_gravity_sum x (fun z => z = t_gravity_sum x) (pp_gravity_sum x hx) (tt_gravity_sum x hx)))⟩
/- gravity_CheckFilter -/
def C_gravity_CheckFilter : Cons := [(91, [121], con_slices_ContainsFuncint_int__gravity_CheckFilter_1), (89, [], con_gravity_unless), (88, [], con_gravity_first), (116, [], con_gravity_sum)]
theorem hC_gravity_CheckFilter : ConsOk Tryd.prog C_gravity_CheckFilter := ConsOk.cons ok_slices_ContainsFuncint_int__gravity_CheckFilter_1 <| ConsOk.cons ok_gravity_unless <| ConsOk.cons ok_gravity_first <| ConsOk.cons ok_gravity_sum <| ConsOk.nil
abbrev q0_gravity_CheckFilter (p0 : (List Int)) := ((s_gravity_unless (decide ((((List.length p0) : Nat) : Int) > zz0)) (10 : Int)) :: ((s_gravity_unless (decide ((((List.length p0) : Nat) : Int) ≤ (9 : Int))) (8 : Int)) :: ((s_gravity_unless (!(v_any_slices_ContainsFuncint_int__gravity_CheckFilter_1 p0)) zz2) :: ([] : List Int))))
def w_gravity_CheckFilter (p0 : (List Int)) (K : Int → Prop) : Prop :=
 ((lenOk p0) ∧
  ((lenOk (q0_gravity_CheckFilter p0)) ∧
  (((((v_first (q0_gravity_CheckFilter p0)) != zz0) = true) →
  (K (v_first (q0_gravity_CheckFilter p0)))) ∧
  ((((v_first (q0_gravity_CheckFilter p0)) != zz0) = false) →
  ((v_fw p0) ∧
    (K (s_gravity_unless (decide ((v_fsum p0) > zz0)) (11 : Int))))))))
set_option maxHeartbeats 4000000 in
theorem w_gravity_CheckFilter_eq (p0 : (List Int)) (K : Int → Prop) : tfn F_gravity_CheckFilter A_gravity_CheckFilter C_gravity_CheckFilter P_gravity_CheckFilter R_gravity_CheckFilter p0 K = w_gravity_CheckFilter p0 K := by kernel_rfl
def s_gravity_CheckFilter (p0 : (List Int)) : Int :=
  (cond ((v_first ((s_gravity_unless (decide ((((List.length p0) : Nat) : Int) > (0 : Int))) (10 : Int)) :: ((s_gravity_unless (decide ((((List.length p0) : Nat) : Int) ≤ (9 : Int))) (8 : Int)) :: ((s_gravity_unless (!(v_any_slices_ContainsFuncint_int__gravity_CheckFilter_1 p0)) (2 : Int)) :: ([] : List Int))))) != (0 : Int)) (v_first ((s_gravity_unless (decide ((((List.length p0) : Nat) : Int) > (0 : Int))) (10 : Int)) :: ((s_gravity_unless (decide ((((List.length p0) : Nat) : Int) ≤ (9 : Int))) (8 : Int)) :: ((s_gravity_unless (!(v_any_slices_ContainsFuncint_int__gravity_CheckFilter_1 p0)) (2 : Int)) :: ([] : List Int)))))
    (s_gravity_unless (decide ((v_fsum p0) > (0 : Int))) (11 : Int)))
abbrev pre_gravity_CheckFilter (p0 : (List Int)) : List Prop := [(lenOk p0),
    ((((v_first ((s_gravity_unless (decide ((((List.length p0) : Nat) : Int) > (0 : Int))) (10 : Int)) :: ((s_gravity_unless (decide ((((List.length p0) : Nat) : Int) ≤ (9 : Int))) (8 : Int)) :: ((s_gravity_unless (!(v_any_slices_ContainsFuncint_int__gravity_CheckFilter_1 p0)) (2 : Int)) :: ([] : List Int))))) != (0 : Int)) = false) → (v_fw p0))]
set_option maxHeartbeats 4000000 in
theorem d_gravity_CheckFilter (p0 : (List Int)) (K : Int → Prop) (hp : ∀ p ∈ pre_gravity_CheckFilter p0, p) (h : K (s_gravity_CheckFilter p0)) : w_gravity_CheckFilter p0 K := by
  unfold w_gravity_CheckFilter
  unfold s_gravity_CheckFilter at h
  obtain ⟨hp0, hp1, _⟩ := conj_of hp
  exact ⟨(hp0), (lenOk_of 3 rfl (by decide)), (br' h (fun e0 h => h)
    (fun e0 h => ⟨(hp1 e0), h⟩))⟩
/-- The errors of weights alone. -/
def v_fw0 (p0 : List Int) : Int := v_first [s_gravity_unless (decide ((p0.length : Int) > 0)) 10, s_gravity_unless (decide ((p0.length : Int) ≤ 9)) 8, s_gravity_unless (!(v_any_slices_ContainsFuncint_int__gravity_CheckFilter_1 p0)) 2]
/-- The error of a filter. -/
def v_filerr (p0 : List Int) : Int := cond (v_fw0 p0 != 0) (v_fw0 p0) (s_gravity_unless (decide (v_fsum p0 > 0)) 11)
theorem tx_sized {x : Int} : s_gravity_isSized x 100000 = true ↔ -100000 ≤ x ∧ x ≤ 100000 := by
  unfold s_gravity_isSized
  rw [show IntKind.i64.wrap (0 - 100000) = -100000 from rfl]
  exact tx_within
theorem tx_fw {p0 : List Int} (h : v_fw0 p0 = 0) : v_fw p0 := by
  obtain ⟨h1, h⟩ := v_first0 h
  obtain ⟨h2, h⟩ := v_first0 h
  obtain ⟨h3, _⟩ := v_first0 h
  have g1 := of_decide_eq_true (tx_unless0' (by decide) h1)
  have g2 := of_decide_eq_true (tx_unless0' (by decide) h2)
  have g3 := tx_unless0' (by decide) h3
  refine ⟨by omega, by omega, fun x hx => ?_⟩
  have : p0.any s_gravity_CheckFilter_1 = false := by simpa [v_any_slices_ContainsFuncint_int__gravity_CheckFilter_1] using g3
  have := List.any_eq_false.1 this x hx
  exact tx_sized.1 (by simpa [s_gravity_CheckFilter_1] using this)
/-- A valid filter. -/
structure v_fok (f : List Int) : Prop extends v_fw f where
  pos : 0 < v_fsum f
theorem tx_fok {p0 : List Int} (h : v_filerr p0 = 0) : v_fok p0 := by
  unfold v_filerr at h
  rcases int0 (v_fw0 p0) with ⟨b1, b2, b3⟩ | ⟨b1, b2, b3⟩
  · rw [b2] at h
    exact ⟨tx_fw b1, of_decide_eq_true (tx_unless0' (by decide) h)⟩
  · rw [b2] at h; exact absurd h b1
abbrev t_gravity_CheckFilter (p0 : List Int) : Int := v_filerr p0
abbrev qre_gravity_CheckFilter (p0 : List Int) : List Prop := [lenOk p0]
theorem pp_gravity_CheckFilter (p0 : List Int) (hq : ∀ p ∈ qre_gravity_CheckFilter p0, p) : ∀ p ∈ pre_gravity_CheckFilter p0, p := by
  simp only [pre_gravity_CheckFilter, List.forall_mem_cons]
  exact ⟨(conj_of hq).1, fun h => tx_fw (bne0' h), by simp⟩
theorem tt_gravity_CheckFilter (p0 : List Int) (_ : ∀ p ∈ qre_gravity_CheckFilter p0, p) : s_gravity_CheckFilter p0 = t_gravity_CheckFilter p0 := rfl

abbrev con_gravity_CheckFilter : Con := ⟨P_gravity_CheckFilter, R_gravity_CheckFilter, fun x => qre_gravity_CheckFilter x, fun x => t_gravity_CheckFilter x⟩
theorem ok_gravity_CheckFilter : ConOk Tryd.prog 75 con_gravity_CheckFilter := ⟨k_gravity_CheckFilter, fun x hx => ret_tf (ps := P_gravity_CheckFilter) (rs := R_gravity_CheckFilter) (x := x) (y := t_gravity_CheckFilter x) e_gravity_CheckFilter hC_gravity_CheckFilter (tf_of (w_gravity_CheckFilter_eq x (fun z => z = t_gravity_CheckFilter x)) (d_gravity_CheckFilter x (fun z => z = t_gravity_CheckFilter x) (pp_gravity_CheckFilter x hx) (tt_gravity_CheckFilter x hx)))⟩
/- base_Within -/
def C_base_Within : Cons := []
theorem hC_base_Within : ConsOk Tryd.prog C_base_Within := ConsOk.nil
def w_base_Within (p0 : Int) (p1 : Int) (p2 : Int) (K : Bool → Prop) : Prop :=
 ((((decide (p1 ≤ p0)) = true) →
  ((decide (p1 ≤ p0)) = (decide (p1 ≤ p0)))) ∧
  ((((decide (p1 ≤ p0)) = true) →
  ((decide (p1 ≤ p0)) = (decide (p1 ≤ p0)))) ∧
  (((decide (p1 ≤ p0)) = (decide (p1 ≤ p0))) ∧
  (K (cond (decide (p1 ≤ p0)) (decide (p0 ≤ p2)) false)))))
set_option maxHeartbeats 4000000 in
theorem w_base_Within_eq (p0 : Int) (p1 : Int) (p2 : Int) (K : Bool → Prop) : tfn F_base_Within A_base_Within C_base_Within P_base_Within R_base_Within (p0, p1, p2) K = w_base_Within p0 p1 p2 K := by kernel_rfl
def s_base_Within (p0 : Int) (p1 : Int) (p2 : Int) : Bool :=
  (cond (decide (p1 ≤ p0)) (decide (p0 ≤ p2)) false)
abbrev pre_base_Within (p0 : Int) (p1 : Int) (p2 : Int) : List Prop := []
set_option maxHeartbeats 4000000 in
theorem d_base_Within (p0 : Int) (p1 : Int) (p2 : Int) (K : Bool → Prop) (hp : ∀ p ∈ pre_base_Within p0 p1 p2, p) (h : K (s_base_Within p0 p1 p2)) : w_base_Within p0 p1 p2 K := by
  unfold w_base_Within
  unfold s_base_Within at h
  exact ⟨rf, rf, rfl, h⟩
abbrev con_base_Within : Con := ⟨P_base_Within, R_base_Within, fun x => pre_base_Within x.1 x.2.1 x.2.2, fun x => s_base_Within x.1 x.2.1 x.2.2⟩
theorem ok_base_Within : ConOk Tryd.prog 60 con_base_Within := ⟨k_base_Within, fun x hx => ret_tf (ps := P_base_Within) (rs := R_base_Within) (x := x) (y := s_base_Within x.1 x.2.1 x.2.2) e_base_Within hC_base_Within (tf_of (w_base_Within_eq x.1 x.2.1 x.2.2 (fun z => z = s_base_Within x.1 x.2.1 x.2.2)) (d_base_Within x.1 x.2.1 x.2.2 (fun z => z = s_base_Within x.1 x.2.1 x.2.2) hx rfl))⟩
/- base_Mod -/
def C_base_Mod : Cons := []
theorem hC_base_Mod : ConsOk Tryd.prog C_base_Mod := ConsOk.nil
def w_base_Mod (p0 : Int) (p1 : Int) (K : Int → Prop) : Prop :=
 ((p1 ≠ (0 : Int)) ∧
  ((((decide ((Int.tmod p0 p1) < (0 : Int))) = true) →
  (K (IntKind.i64.wrap ((Int.tmod p0 p1) + p1)))) ∧
  (((decide ((Int.tmod p0 p1) < (0 : Int))) = false) →
  (K (Int.tmod p0 p1)))))
set_option maxHeartbeats 4000000 in
theorem w_base_Mod_eq (p0 : Int) (p1 : Int) (K : Int → Prop) : tfn F_base_Mod A_base_Mod C_base_Mod P_base_Mod R_base_Mod (p0, p1) K = w_base_Mod p0 p1 K := by kernel_rfl
def s_base_Mod (p0 : Int) (p1 : Int) : Int :=
  (cond (decide ((Int.tmod p0 p1) < (0 : Int))) (IntKind.i64.wrap ((Int.tmod p0 p1) + p1))
    (Int.tmod p0 p1))
abbrev pre_base_Mod (p0 : Int) (p1 : Int) : List Prop := [(p1 ≠ (0 : Int))]
set_option maxHeartbeats 4000000 in
theorem d_base_Mod (p0 : Int) (p1 : Int) (K : Int → Prop) (hp : ∀ p ∈ pre_base_Mod p0 p1, p) (h : K (s_base_Mod p0 p1)) : w_base_Mod p0 p1 K := by
  unfold w_base_Mod
  unfold s_base_Mod at h
  obtain ⟨hp0, _⟩ := conj_of hp
  exact ⟨(hp0), (br' h (fun e0 h => h)
    (fun e0 h => h))⟩
abbrev t_base_Mod (p0 p1 : Int) : Int := p0 % p1
abbrev qre_base_Mod (p0 p1 : Int) : List Prop := [0 < p1 ∧ p1 ≤ 1000000000000]
theorem pp_base_Mod (p0 p1 : Int) (hq : ∀ p ∈ qre_base_Mod p0 p1, p) : ∀ p ∈ pre_base_Mod p0 p1, p := by
  have h := (conj_of hq).1
  simp only [pre_base_Mod, List.forall_mem_cons]
  exact ⟨by omega, by simp⟩
theorem tt_base_Mod (p0 p1 : Int) (hq : ∀ p ∈ qre_base_Mod p0 p1, p) : s_base_Mod p0 p1 = t_base_Mod p0 p1 := by
  have h := (conj_of hq).1
  unfold s_base_Mod t_base_Mod
  have h1 := v_tmod_lt (a := p0) (b := p1) (by omega)
  have h2 := Int.mul_tdiv_add_tmod p0 p1
  cases c : decide (p0.tmod p1 < 0)
  · have := of_decide_eq_false c
    simp only [cond_false]
    exact ((Int.ediv_emod_unique (a := p0) (b := p1) (q := p0.tdiv p1) (r := p0.tmod p1) h.1).2 ⟨by omega, by omega, by omega⟩).2.symm
  · have := of_decide_eq_true c
    simp only [cond_true]
    rw [wrap_id (by omega) (by omega)]
    have e : p1 * (p0.tdiv p1 - 1) = p1 * p0.tdiv p1 - p1 := by rw [Int.mul_sub, Int.mul_one]
    exact ((Int.ediv_emod_unique (a := p0) (b := p1) (q := p0.tdiv p1 - 1) (r := p0.tmod p1 + p1) h.1).2 ⟨by omega, by omega, by omega⟩).2.symm

abbrev con_base_Mod : Con := ⟨P_base_Mod, R_base_Mod, fun x => qre_base_Mod x.1 x.2, fun x => t_base_Mod x.1 x.2⟩
theorem ok_base_Mod : ConOk Tryd.prog 61 con_base_Mod := ⟨k_base_Mod, fun x hx => ret_tf (ps := P_base_Mod) (rs := R_base_Mod) (x := x) (y := t_base_Mod x.1 x.2) e_base_Mod hC_base_Mod (tf_of (w_base_Mod_eq x.1 x.2 (fun z => z = t_base_Mod x.1 x.2)) (d_base_Mod x.1 x.2 (fun z => z = t_base_Mod x.1 x.2) (pp_base_Mod x.1 x.2 hx) (tt_base_Mod x.1 x.2 hx)))⟩
/- base_Size -/
def C_base_Size : Cons := []
theorem hC_base_Size : ConsOk Tryd.prog C_base_Size := ConsOk.nil
def w_base_Size (p0 : Int) (K : Int → Prop) : Prop :=
 (K (max p0 (IntKind.i64.wrap ((0 : Int) - p0))))
set_option maxHeartbeats 4000000 in
theorem w_base_Size_eq (p0 : Int) (K : Int → Prop) : tfn F_base_Size A_base_Size C_base_Size P_base_Size R_base_Size p0 K = w_base_Size p0 K := by kernel_rfl
def s_base_Size (p0 : Int) : Int :=
  (max p0 (IntKind.i64.wrap ((0 : Int) - p0)))
abbrev pre_base_Size (p0 : Int) : List Prop := []
set_option maxHeartbeats 4000000 in
theorem d_base_Size (p0 : Int) (K : Int → Prop) (hp : ∀ p ∈ pre_base_Size p0, p) (h : K (s_base_Size p0)) : w_base_Size p0 K := by
  unfold w_base_Size
  unfold s_base_Size at h
  exact h
abbrev con_base_Size : Con := ⟨P_base_Size, R_base_Size, fun x => pre_base_Size x, fun x => s_base_Size x⟩
theorem ok_base_Size : ConOk Tryd.prog 65 con_base_Size := ⟨k_base_Size, fun x hx => ret_tf (ps := P_base_Size) (rs := R_base_Size) (x := x) (y := s_base_Size x) e_base_Size hC_base_Size (tf_of (w_base_Size_eq x (fun z => z = s_base_Size x)) (d_base_Size x (fun z => z = s_base_Size x) hx rfl))⟩
/- ref05_at -/
def C_ref05_at : Cons := [(65, [], con_base_Size)]
theorem hC_ref05_at : ConsOk Tryd.prog C_ref05_at := ConsOk.cons ok_base_Size <| ConsOk.nil
def w_ref05_at (p0 : (List Int)) (p1 : Int) (K : Int → Prop) : Prop :=
 ((((decide ((s_base_Size p1) < (((List.length p0) : Nat) : Int))) = true) →
  (((0 : Int) ≤ (s_base_Size p1)) ∧
    (((s_base_Size p1) < (((List.length p0) : Nat) : Int)) ∧
    (K (List.getD p0 (Int.toNat (s_base_Size p1)) (0 : Int)))))) ∧
  (((decide ((s_base_Size p1) < (((List.length p0) : Nat) : Int))) = false) →
  (K (0 : Int))))
set_option maxHeartbeats 4000000 in
theorem w_ref05_at_eq (p0 : (List Int)) (p1 : Int) (K : Int → Prop) : tfn F_ref05_at A_ref05_at C_ref05_at P_ref05_at R_ref05_at (p0, p1) K = w_ref05_at p0 p1 K := by kernel_rfl
def s_ref05_at (p0 : (List Int)) (p1 : Int) : Int :=
  (cond (decide ((s_base_Size p1) < (((List.length p0) : Nat) : Int))) (List.getD p0 (Int.toNat (s_base_Size p1)) (0 : Int))
    (0 : Int))
abbrev pre_ref05_at (p0 : (List Int)) (p1 : Int) : List Prop := [(((decide ((s_base_Size p1) < (((List.length p0) : Nat) : Int))) = true) → ((0 : Int) ≤ (s_base_Size p1))),
    (((decide ((s_base_Size p1) < (((List.length p0) : Nat) : Int))) = true) → ((s_base_Size p1) < (((List.length p0) : Nat) : Int)))]
set_option maxHeartbeats 4000000 in
theorem d_ref05_at (p0 : (List Int)) (p1 : Int) (K : Int → Prop) (hp : ∀ p ∈ pre_ref05_at p0 p1, p) (h : K (s_ref05_at p0 p1)) : w_ref05_at p0 p1 K := by
  unfold w_ref05_at
  unfold s_ref05_at at h
  obtain ⟨hp0, hp1, _⟩ := conj_of hp
  exact (br' h (fun e0 h => ⟨(hp0 e0), (hp1 e0), h⟩)
    (fun e0 h => h))
theorem tx_size {x : Int} (h : v_fit x) : s_base_Size x = x.natAbs := by
  unfold s_base_Size
  unfold v_fit at h
  rw [wrap_id (by omega) (by omega)]; omega
abbrev t_ref05_at (p0 : List Int) (p1 : Int) : Int := v_at p0 p1
abbrev qre_ref05_at (p0 : List Int) (p1 : Int) : List Prop := [v_fit p1]
theorem pp_ref05_at (p0 : List Int) (p1 : Int) (hq : ∀ p ∈ qre_ref05_at p0 p1, p) : ∀ p ∈ pre_ref05_at p0 p1, p := by
  have h := (conj_of hq).1
  have e := tx_size h
  simp only [pre_ref05_at, List.forall_mem_cons, e]
  exact ⟨fun _ => by omega, fun h => of_decide_eq_true h, by simp⟩
theorem tt_ref05_at (p0 : List Int) (p1 : Int) (hq : ∀ p ∈ qre_ref05_at p0 p1, p) : s_ref05_at p0 p1 = t_ref05_at p0 p1 := by
  have e := tx_size (conj_of hq).1
  unfold s_ref05_at t_ref05_at v_at
  rw [e, Int.toNat_natCast]
  by_cases c : p1.natAbs < p0.length
  · rw [decide_eq_true (show (p1.natAbs : Int) < (p0.length : Nat) by omega)]; rfl
  · rw [decide_eq_false (show ¬ (p1.natAbs : Int) < (p0.length : Nat) by omega), gd_out _ (by omega)]; rfl

abbrev con_ref05_at : Con := ⟨P_ref05_at, R_ref05_at, fun x => qre_ref05_at x.1 x.2, fun x => t_ref05_at x.1 x.2⟩
theorem ok_ref05_at : ConOk Tryd.prog 96 con_ref05_at := ⟨k_ref05_at, fun x hx => ret_tf (ps := P_ref05_at) (rs := R_ref05_at) (x := x) (y := t_ref05_at x.1 x.2) e_ref05_at hC_ref05_at (tf_of (w_ref05_at_eq x.1 x.2 (fun z => z = t_ref05_at x.1 x.2)) (d_ref05_at x.1 x.2 (fun z => z = t_ref05_at x.1 x.2) (pp_ref05_at x.1 x.2 hx) (tt_ref05_at x.1 x.2 hx)))⟩
/- ref05_Gain -/
def C_ref05_Gain : Cons := [(61, [], con_base_Mod), (96, [], con_ref05_at)]
theorem hC_ref05_Gain : ConsOk Tryd.prog C_ref05_Gain := ConsOk.cons ok_base_Mod <| ConsOk.cons ok_ref05_at <| ConsOk.nil
def w_ref05_Gain (p0 : (List Int)) (p1 : Int) (K : Int → Prop) : Prop :=
 (∃ n0, (loopP (fun (y1 : (Int × Int)) k2 =>
    ((((decide (y1.1 < (((List.length p0) : Nat) : Int))) = true) →
    ((((0 : Int) < (4 : Int)) ∧
      ((4 : Int) ≤ (1000000000000 : Int))) ∧
      (((0 : Int) ≤ ((IntKind.i64.wrap (y1.1 * p1)) % (4 : Int))) ∧
      ((((IntKind.i64.wrap (y1.1 * p1)) % (4 : Int)) < (((List.length ((1 : Int) :: ((0 : Int) :: ((-1 : Int) :: ((0 : Int) :: ([] : List Int)))))) : Nat) : Int)) ∧
      ((v_fit y1.1) ∧
      (k2 ((IntKind.i64.wrap (y1.1 + (1 : Int))), (IntKind.i64.wrap (y1.2 + (IntKind.i64.wrap ((List.getD ((1 : Int) :: ((0 : Int) :: ((-1 : Int) :: ((0 : Int) :: ([] : List Int))))) (Int.toNat ((IntKind.i64.wrap (y1.1 * p1)) % (4 : Int))) (0 : Int)) * (v_at p0 y1.1)))))))))))) ∧
    (((decide (y1.1 < (((List.length p0) : Nat) : Int))) = false) →
    (K y1.2)))) n0 ((IntKind.i64.wrap ((IntKind.i64.wrap ((0 : Int) - (((List.length p0) : Nat) : Int))) + (1 : Int))), (0 : Int))))
set_option maxHeartbeats 4000000 in
theorem w_ref05_Gain_eq (p0 : (List Int)) (p1 : Int) (K : Int → Prop) : tfn F_ref05_Gain A_ref05_Gain C_ref05_Gain P_ref05_Gain R_ref05_Gain (p0, p1) K = w_ref05_Gain p0 p1 K := by kernel_rfl
def st_ref05_Gain_0 (p0 : (List Int)) (p1 : Int) (y0 : (Int × Int)) : (Int × Int) ⊕ Int :=
  (cond (decide (y0.1 < (((List.length p0) : Nat) : Int))) (Sum.inl ((IntKind.i64.wrap (y0.1 + (1 : Int))), (IntKind.i64.wrap (y0.2 + (IntKind.i64.wrap ((List.getD ((1 : Int) :: ((0 : Int) :: ((-1 : Int) :: ((0 : Int) :: ([] : List Int))))) (Int.toNat ((IntKind.i64.wrap (y0.1 * p1)) % (4 : Int))) (0 : Int)) * (v_at p0 y0.1)))))))
    (Sum.inr y0.2))
abbrev sp_ref05_Gain_0 (p0 : (List Int)) (p1 : Int) (y0 : (Int × Int)) : List Prop := [(((decide (y0.1 < (((List.length p0) : Nat) : Int))) = true) → ((0 : Int) ≤ ((IntKind.i64.wrap (y0.1 * p1)) % (4 : Int)))),
    (((decide (y0.1 < (((List.length p0) : Nat) : Int))) = true) → (((IntKind.i64.wrap (y0.1 * p1)) % (4 : Int)) < (((List.length ((1 : Int) :: ((0 : Int) :: ((-1 : Int) :: ((0 : Int) :: ([] : List Int)))))) : Nat) : Int))),
    (((decide (y0.1 < (((List.length p0) : Nat) : Int))) = true) → (v_fit y0.1))]
def s_ref05_Gain (p0 : (List Int)) (p1 : Int) : Int :=
  (lpv (0 : Int) (st_ref05_Gain_0 p0 p1) ((IntKind.i64.wrap ((IntKind.i64.wrap ((0 : Int) - (((List.length p0) : Nat) : Int))) + (1 : Int))), (0 : Int)))
abbrev pre_ref05_Gain (p0 : (List Int)) (p1 : Int) : List Prop := [(OkL (st_ref05_Gain_0 p0 p1) (sp_ref05_Gain_0 p0 p1) ((IntKind.i64.wrap ((IntKind.i64.wrap ((0 : Int) - (((List.length p0) : Nat) : Int))) + (1 : Int))), (0 : Int)))]
set_option maxHeartbeats 4000000 in
theorem d_ref05_Gain (p0 : (List Int)) (p1 : Int) (K : Int → Prop) (hp : ∀ p ∈ pre_ref05_Gain p0 p1, p) (h : K (s_ref05_Gain p0 p1)) : w_ref05_Gain p0 p1 K := by
  unfold w_ref05_Gain
  unfold s_ref05_Gain at h
  obtain ⟨hp0, _⟩ := conj_of hp
  exact (loop_gen (hp0) h (fun y0 k0 hp h => by
  unfold st_ref05_Gain_0 at h; obtain ⟨hp0, hp1, hp2, _⟩ := conj_of hp
  exact (br' h (fun e1 h => ⟨(od rfl), (hp0 e1), (hp1 e1), (hp2 e1), h⟩)
    (fun e1 h => h))))
/-- The cosine of whole quarters. -/
def v_cos (x : Int) : Int := [1, 0, -1, 0].getD (x % 4).toNat 0
theorem v_cos_in (x : Int) : (v_cos x = 1 ∨ v_cos x = 0 ∨ v_cos x = -1) := by
  unfold v_cos
  have h1 := Int.emod_nonneg x (show (4 : Int) ≠ 0 by decide)
  have h2 := Int.emod_lt_of_pos x (show (0 : Int) < 4 by decide)
  generalize x % 4 = y at *
  have : y = 0 ∨ y = 1 ∨ y = 2 ∨ y = 3 := by omega
  rcases this with rfl | rfl | rfl | rfl <;> decide
/-- The gain of a filter at a quarter. -/
def v_gain (f : List Int) (q : Int) : Int := v_sums (fun j => v_cos (((j : Int) - ((f.length : Int) - 1)) * q) * v_at f ((j : Int) - ((f.length : Int) - 1))) 0 (2 * f.length - 1)
theorem v_gain0 (f : List Int) : v_gain f 0 = v_fsum f := by
  unfold v_gain v_fsum
  refine v_sums_congr _ _ fun k _ _ => ?_
  rw [Int.mul_zero]
  show 1 * _ = _
  rw [Int.one_mul]
theorem v_cos_at {f : List Int} (h : v_fw f) (x k : Int) : -100000 ≤ v_cos x * v_at f k ∧ v_cos x * v_at f k ≤ 100000 := by
  have := h.at k
  rcases v_cos_in x with e | e | e <;> rw [e] <;> omega
theorem l_ref05_Gain (p0 : List Int) (p1 : Int) (h : v_fw p0) (hq : 0 ≤ p1 ∧ p1 ≤ 3) : OkL (st_ref05_Gain_0 p0 p1) (sp_ref05_Gain_0 p0 p1) ((IntKind.i64.wrap ((IntKind.i64.wrap ((0 : Int) - (((List.length p0) : Nat) : Int))) + (1 : Int))), (0 : Int)) ∧ s_ref05_Gain p0 p1 = v_gain p0 p1 := by
  have h1 := h.one
  have h2 := h.nine
  unfold s_ref05_Gain
  rw [wrap_id (show -9223372036854775808 ≤ (0 : Int) - ((p0.length : Nat) : Int) by omega) (by omega), wrap_id (show -9223372036854775808 ≤ (0 : Int) - ((p0.length : Nat) : Int) + 1 by omega) (by omega), show (0 : Int) - ((p0.length : Nat) : Int) + 1 = ((0 : Nat) : Int) - ((p0.length : Int) - 1) by omega]
  refine for_is (fun i t => (i - ((p0.length : Int) - 1), t)) 0 (2 * p0.length - 1) (fun j t => t = v_sums (fun j => v_cos (((j : Int) - ((p0.length : Int) - 1)) * p1) * v_at p0 ((j : Int) - ((p0.length : Int) - 1))) 0 j) (fun _ _ => v_gain p0 p1) (by omega) (by omega) ?_ ?_ 0 rfl
  · intro t ht
    have hd : decide (((2 * p0.length - 1 : Nat) : Int) - ((p0.length : Int) - 1) < (p0.length : Nat)) = false := decide_eq_false (by omega)
    refine ⟨by simp only [sp_ref05_Gain_0, List.forall_mem_cons, hd]; simp, ?_⟩
    simp only [st_ref05_Gain_0, hd, cond_false]
    rw [ht]; rfl
  · intro j t _ hj ht
    have hd : decide ((j : Int) - ((p0.length : Int) - 1) < (p0.length : Nat)) = true := decide_eq_true (by omega)
    have hp : -100 ≤ ((j : Int) - ((p0.length : Int) - 1)) * p1 ∧ ((j : Int) - ((p0.length : Int) - 1)) * p1 ≤ 100 := by
      have : p1 = 0 ∨ p1 = 1 ∨ p1 = 2 ∨ p1 = 3 := by omega
      rcases this with rfl | rfl | rfl | rfl <;> omega
    have hw : IntKind.i64.wrap (((j : Int) - ((p0.length : Int) - 1)) * p1) = ((j : Int) - ((p0.length : Int) - 1)) * p1 := wrap_id (by omega) (by omega)
    have m1 := Int.emod_nonneg (((j : Int) - ((p0.length : Int) - 1)) * p1) (show (4 : Int) ≠ 0 by decide)
    have m2 := Int.emod_lt_of_pos (((j : Int) - ((p0.length : Int) - 1)) * p1) (show (0 : Int) < 4 by decide)
    refine ⟨?_, .inl ⟨_, ?_, rfl, rfl⟩⟩
    · simp only [sp_ref05_Gain_0, List.forall_mem_cons, hw]
      exact ⟨fun _ => m1, fun _ => by simp only [List.length_cons, List.length_nil]; omega, fun _ => by unfold v_fit; omega, by simp⟩
    · have hb := v_sums_in (f := fun j => v_cos (((j : Int) - ((p0.length : Int) - 1)) * p1) * v_at p0 ((j : Int) - ((p0.length : Int) - 1))) (m := 100000) j 0 (fun k _ _ => v_cos_at h _ _)
      have ha := v_cos_at h (((j : Int) - ((p0.length : Int) - 1)) * p1) ((j : Int) - ((p0.length : Int) - 1))
      simp only [st_ref05_Gain_0, hd, cond_true, hw]
      rw [show (List.getD [1, 0, -1, 0] (((j : Int) - ((p0.length : Int) - 1)) * p1 % 4).toNat 0) = v_cos (((j : Int) - ((p0.length : Int) - 1)) * p1) from rfl, wrap_id (show -9223372036854775808 ≤ v_cos (((j : Int) - ((p0.length : Int) - 1)) * p1) * v_at p0 ((j : Int) - ((p0.length : Int) - 1)) by omega) (by omega), ht, v_sums_last, Nat.zero_add, wrap_id (by omega) (by omega), wrap_id (by omega) (by omega), show (j : Int) - ((p0.length : Int) - 1) + 1 = ((j + 1 : Nat) : Int) - ((p0.length : Int) - 1) by omega]
abbrev t_ref05_Gain (p0 : List Int) (p1 : Int) : Int := v_gain p0 p1
abbrev qre_ref05_Gain (p0 : List Int) (p1 : Int) : List Prop := [v_fw p0, 0 ≤ p1 ∧ p1 ≤ 3]
theorem pp_ref05_Gain (p0 : List Int) (p1 : Int) (hq : ∀ p ∈ qre_ref05_Gain p0 p1, p) : ∀ p ∈ pre_ref05_Gain p0 p1, p := by
  simp only [pre_ref05_Gain, List.forall_mem_cons]
  exact ⟨(l_ref05_Gain p0 p1 (conj_of hq).1 (conj_of hq).2.1).1, by simp⟩
theorem tt_ref05_Gain (p0 : List Int) (p1 : Int) (hq : ∀ p ∈ qre_ref05_Gain p0 p1, p) : s_ref05_Gain p0 p1 = t_ref05_Gain p0 p1 := (l_ref05_Gain p0 p1 (conj_of hq).1 (conj_of hq).2.1).2

abbrev con_ref05_Gain : Con := ⟨P_ref05_Gain, R_ref05_Gain, fun x => qre_ref05_Gain x.1 x.2, fun x => t_ref05_Gain x.1 x.2⟩
theorem ok_ref05_Gain : ConOk Tryd.prog 77 con_ref05_Gain := ⟨k_ref05_Gain, fun x hx => ret_tf (ps := P_ref05_Gain) (rs := R_ref05_Gain) (x := x) (y := t_ref05_Gain x.1 x.2) e_ref05_Gain hC_ref05_Gain (tf_of (w_ref05_Gain_eq x.1 x.2 (fun z => z = t_ref05_Gain x.1 x.2)) (d_ref05_Gain x.1 x.2 (fun z => z = t_ref05_Gain x.1 x.2) (pp_ref05_Gain x.1 x.2 hx) (tt_ref05_Gain x.1 x.2 hx)))⟩
/- ref05_Sum -/
def C_ref05_Sum : Cons := [(77, [], con_ref05_Gain)]
theorem hC_ref05_Sum : ConsOk Tryd.prog C_ref05_Sum := ConsOk.cons ok_ref05_Gain <| ConsOk.nil
def w_ref05_Sum (p0 : (List Int)) (K : Int → Prop) : Prop :=
 ((v_fw p0) ∧
  ((((0 : Int) ≤ (0 : Int)) ∧
  ((0 : Int) ≤ (3 : Int))) ∧
  (K (v_gain p0 (0 : Int)))))
set_option maxHeartbeats 4000000 in
theorem w_ref05_Sum_eq (p0 : (List Int)) (K : Int → Prop) : tfn F_ref05_Sum A_ref05_Sum C_ref05_Sum P_ref05_Sum R_ref05_Sum p0 K = w_ref05_Sum p0 K := by kernel_rfl
def s_ref05_Sum (p0 : (List Int)) : Int :=
  (v_gain p0 (0 : Int))
abbrev pre_ref05_Sum (p0 : (List Int)) : List Prop := [(v_fw p0)]
set_option maxHeartbeats 4000000 in
theorem d_ref05_Sum (p0 : (List Int)) (K : Int → Prop) (hp : ∀ p ∈ pre_ref05_Sum p0, p) (h : K (s_ref05_Sum p0)) : w_ref05_Sum p0 K := by
  unfold w_ref05_Sum
  unfold s_ref05_Sum at h
  obtain ⟨hp0, _⟩ := conj_of hp
  exact ⟨(hp0), (od rfl), h⟩
abbrev t_ref05_Sum (p0 : List Int) : Int := v_fsum p0
abbrev qre_ref05_Sum (p0 : List Int) : List Prop := [v_fw p0]
theorem pp_ref05_Sum (p0 : List Int) (hq : ∀ p ∈ qre_ref05_Sum p0, p) : ∀ p ∈ pre_ref05_Sum p0, p := by
  simp only [pre_ref05_Sum, List.forall_mem_cons]
  exact ⟨(conj_of hq).1, by simp⟩
theorem tt_ref05_Sum (p0 : List Int) (_ : ∀ p ∈ qre_ref05_Sum p0, p) : s_ref05_Sum p0 = t_ref05_Sum p0 := v_gain0 p0

abbrev con_ref05_Sum : Con := ⟨P_ref05_Sum, R_ref05_Sum, fun x => qre_ref05_Sum x, fun x => t_ref05_Sum x⟩
theorem ok_ref05_Sum : ConOk Tryd.prog 76 con_ref05_Sum := ⟨k_ref05_Sum, fun x hx => ret_tf (ps := P_ref05_Sum) (rs := R_ref05_Sum) (x := x) (y := t_ref05_Sum x) e_ref05_Sum hC_ref05_Sum (tf_of (w_ref05_Sum_eq x (fun z => z = t_ref05_Sum x)) (d_ref05_Sum x (fun z => z = t_ref05_Sum x) (pp_ref05_Sum x hx) (tt_ref05_Sum x hx)))⟩
/- ref05_FilterErr -/
def C_ref05_FilterErr : Cons := [(60, [], con_base_Within), (76, [], con_ref05_Sum)]
theorem hC_ref05_FilterErr : ConsOk Tryd.prog C_ref05_FilterErr := ConsOk.cons ok_base_Within <| ConsOk.cons ok_ref05_Sum <| ConsOk.nil
def w_ref05_FilterErr (p0 : (List Int)) (K : Int → Prop) : Prop :=
 (((((((List.length p0) : Nat) : Int) == (0 : Int)) = true) →
  (K (10 : Int))) ∧
  ((((((List.length p0) : Nat) : Int) == (0 : Int)) = false) →
  ((((decide ((((List.length p0) : Nat) : Int) > (9 : Int))) = true) →
    (K (8 : Int))) ∧
    (((decide ((((List.length p0) : Nat) : Int) > (9 : Int))) = false) →
    (∃ n0, (loopP (fun (y1 : Int) k2 =>
        ((((decide (y1 < (((List.length p0) : Nat) : Int))) = true) →
        (((0 : Int) ≤ y1) ∧
          ((y1 < (((List.length p0) : Nat) : Int)) ∧
          ((((!(s_base_Within (List.getD p0 (Int.toNat y1) (0 : Int)) (-100000 : Int) (100000 : Int))) = true) →
          (K (2 : Int))) ∧
          (((!(s_base_Within (List.getD p0 (Int.toNat y1) (0 : Int)) (-100000 : Int) (100000 : Int))) = false) →
          (k2 (IntKind.i64.wrap (y1 + (1 : Int))))))))) ∧
        (((decide (y1 < (((List.length p0) : Nat) : Int))) = false) →
        ((v_fw p0) ∧
          ((((decide ((v_fsum p0) < (1 : Int))) = true) →
          (K (11 : Int))) ∧
          (((decide ((v_fsum p0) < (1 : Int))) = false) →
          (K (0 : Int)))))))) n0 (0 : Int)))))))
set_option maxHeartbeats 4000000 in
theorem w_ref05_FilterErr_eq (p0 : (List Int)) (K : Int → Prop) : tfn F_ref05_FilterErr A_ref05_FilterErr C_ref05_FilterErr P_ref05_FilterErr R_ref05_FilterErr p0 K = w_ref05_FilterErr p0 K := by kernel_rfl
def st_ref05_FilterErr_0 (p0 : (List Int)) (y2 : Int) : Int ⊕ Int :=
  (cond (decide (y2 < (((List.length p0) : Nat) : Int))) (cond (!(s_base_Within (List.getD p0 (Int.toNat y2) (0 : Int)) (-100000 : Int) (100000 : Int))) (Sum.inr (2 : Int))
    (Sum.inl (IntKind.i64.wrap (y2 + (1 : Int)))))
    (cond (decide ((v_fsum p0) < (1 : Int))) (Sum.inr (11 : Int))
    (Sum.inr (0 : Int))))
abbrev sp_ref05_FilterErr_0 (p0 : (List Int)) (y2 : Int) : List Prop := [(((decide (y2 < (((List.length p0) : Nat) : Int))) = true) → ((0 : Int) ≤ y2)),
    (((decide (y2 < (((List.length p0) : Nat) : Int))) = true) → (y2 < (((List.length p0) : Nat) : Int))),
    (((decide (y2 < (((List.length p0) : Nat) : Int))) = false) → (v_fw p0))]
def s_ref05_FilterErr (p0 : (List Int)) : Int :=
  (cond ((((List.length p0) : Nat) : Int) == (0 : Int)) (10 : Int)
    (cond (decide ((((List.length p0) : Nat) : Int) > (9 : Int))) (8 : Int)
    (lpv (0 : Int) (st_ref05_FilterErr_0 p0) (0 : Int))))
abbrev pre_ref05_FilterErr (p0 : (List Int)) : List Prop := [((((((List.length p0) : Nat) : Int) == (0 : Int)) = false) → (((decide ((((List.length p0) : Nat) : Int) > (9 : Int))) = false) → (OkL (st_ref05_FilterErr_0 p0) (sp_ref05_FilterErr_0 p0) (0 : Int))))]
set_option maxHeartbeats 4000000 in
theorem d_ref05_FilterErr (p0 : (List Int)) (K : Int → Prop) (hp : ∀ p ∈ pre_ref05_FilterErr p0, p) (h : K (s_ref05_FilterErr p0)) : w_ref05_FilterErr p0 K := by
  unfold w_ref05_FilterErr
  unfold s_ref05_FilterErr at h
  obtain ⟨hp0, _⟩ := conj_of hp
  exact (br' h (fun e0 h => h)
    (fun e0 h => (br' h (fun e1 h => h)
    (fun e1 h => (loop_gen (hp0 e0 e1) h (fun y2 k2 hp h => by
  unfold st_ref05_FilterErr_0 at h; obtain ⟨hp0, hp1, hp2, _⟩ := conj_of hp
  exact (br' h (fun e3 h => ⟨(hp0 e3), (hp1 e3), (br' h (fun e4 h => h)
    (fun e4 h => h))⟩)
    (fun e3 h => ⟨(hp2 e3), (br' h (fun e5 h => h)
    (fun e5 h => h))⟩))))))))
theorem tx_filerr {p0 : List Int} (h1 : 1 ≤ p0.length) (h9 : p0.length ≤ 9) : v_filerr p0 = cond (v_any_slices_ContainsFuncint_int__gravity_CheckFilter_1 p0) 2 (s_gravity_unless (decide (v_fsum p0 > 0)) 11) := by
  unfold v_filerr v_fw0
  rw [decide_eq_true (show (p0.length : Int) > 0 by omega), decide_eq_true (show (p0.length : Int) ≤ 9 by omega)]
  cases v_any_slices_ContainsFuncint_int__gravity_CheckFilter_1 p0 <;> rfl
theorem l_ref05_FilterErr (p0 : List Int) (h1 : 1 ≤ p0.length) (h9 : p0.length ≤ 9) : OkL (st_ref05_FilterErr_0 p0) (sp_ref05_FilterErr_0 p0) 0 ∧ lpv 0 (st_ref05_FilterErr_0 p0) 0 = v_filerr p0 := by
  have hc : ∀ x, (!(s_base_Within x (-100000) 100000)) = s_gravity_CheckFilter_1 x := fun x => rfl
  refine for_is (fun i (_ : Unit) => i) 0 p0.length (fun j _ => ∀ k, k < j → s_gravity_CheckFilter_1 (p0.getD k 0) = false) (fun _ _ => v_filerr p0) (by omega) (by omega) ?_ ?_ () (fun k hk => by omega)
  · intro t hi
    have hd : decide ((p0.length : Int) < (p0.length : Nat)) = false := decide_eq_false (by omega)
    have ha : v_any_slices_ContainsFuncint_int__gravity_CheckFilter_1 p0 = false := by
      refine List.any_eq_false.2 fun x hx => ?_
      obtain ⟨k, hk, rfl⟩ := List.mem_iff_getElem.1 hx
      rw [← gd_get 0 hk, hi k hk]; simp
    have hw : v_fw p0 := by
      refine ⟨h1, h9, fun x hx => ?_⟩
      have := List.any_eq_false.1 ha x hx
      exact tx_sized.1 (by simpa [s_gravity_CheckFilter_1] using this)
    refine ⟨by simp only [sp_ref05_FilterErr_0, List.forall_mem_cons, decide_eq_true_eq]; exact ⟨fun h => by omega, fun h => by omega, fun _ => hw, by simp⟩, ?_⟩
    simp only [st_ref05_FilterErr_0, hd, cond_false]
    rw [tx_filerr h1 h9, ha]
    rcases Int.lt_or_le (v_fsum p0) 1 with c | c
    · rw [decide_eq_true c, decide_eq_false (by omega)]; rfl
    · rw [decide_eq_false (by omega), decide_eq_true (by omega)]; rfl
  · intro j t _ hj hi
    have hd : decide ((j : Int) < (p0.length : Nat)) = true := decide_eq_true (by omega)
    refine ⟨by simp only [sp_ref05_FilterErr_0, List.forall_mem_cons, decide_eq_true_eq, decide_eq_false_iff_not]; exact ⟨fun _ => by omega, fun _ => by omega, fun h => absurd hj (by omega), by simp⟩, ?_⟩
    simp only [st_ref05_FilterErr_0, hd, cond_true, hc, Int.toNat_natCast]
    cases c : s_gravity_CheckFilter_1 (p0.getD j 0)
    · refine .inl ⟨(), by rw [wrap_nat (by omega)]; rfl, fun k hk => ?_, trivial⟩
      by_cases e : k = j
      · rw [e]; exact c
      · exact hi k (by omega)
    · refine .inr ?_
      rw [tx_filerr h1 h9, show v_any_slices_ContainsFuncint_int__gravity_CheckFilter_1 p0 = true from List.any_eq_true.2 ⟨_, getD_mem' 0 hj, c⟩]; rfl
abbrev t_ref05_FilterErr (p0 : List Int) : Int := v_filerr p0
abbrev qre_ref05_FilterErr (_ : List Int) : List Prop := []
theorem l_ref05_FilterErr0 {p0 : List Int} (h : ((p0.length : Int) == 0) = false) (h2 : decide ((p0.length : Int) > 9) = false) : 1 ≤ p0.length ∧ p0.length ≤ 9 := by
  have e1 : ¬ (p0.length : Int) = 0 := by simpa using h
  have e2 := of_decide_eq_false h2
  omega
theorem pp_ref05_FilterErr (p0 : List Int) (_ : ∀ p ∈ qre_ref05_FilterErr p0, p) : ∀ p ∈ pre_ref05_FilterErr p0, p := by
  simp only [pre_ref05_FilterErr, List.forall_mem_cons]
  exact ⟨fun h h2 => (l_ref05_FilterErr p0 (l_ref05_FilterErr0 h h2).1 (l_ref05_FilterErr0 h h2).2).1, by simp⟩
theorem tt_ref05_FilterErr (p0 : List Int) (_ : ∀ p ∈ qre_ref05_FilterErr p0, p) : s_ref05_FilterErr p0 = t_ref05_FilterErr p0 := by
  unfold s_ref05_FilterErr t_ref05_FilterErr
  cases h : ((p0.length : Int) == 0)
  · cases h2 : decide ((p0.length : Int) > 9)
    · exact (l_ref05_FilterErr p0 (l_ref05_FilterErr0 h h2).1 (l_ref05_FilterErr0 h h2).2).2
    · have := of_decide_eq_true h2
      unfold v_filerr v_fw0
      rw [decide_eq_true (show (p0.length : Int) > 0 by omega), decide_eq_false (show ¬ (p0.length : Int) ≤ 9 by omega)]; rfl
  · have : (p0.length : Int) = 0 := by simpa using h
    unfold v_filerr v_fw0
    rw [this]; rfl

abbrev con_ref05_FilterErr : Con := ⟨P_ref05_FilterErr, R_ref05_FilterErr, fun x => qre_ref05_FilterErr x, fun x => t_ref05_FilterErr x⟩
theorem ok_ref05_FilterErr : ConOk Tryd.prog 20 con_ref05_FilterErr := ⟨k_ref05_FilterErr, fun x hx => ret_tf (ps := P_ref05_FilterErr) (rs := R_ref05_FilterErr) (x := x) (y := t_ref05_FilterErr x) e_ref05_FilterErr hC_ref05_FilterErr (tf_of (w_ref05_FilterErr_eq x (fun z => z = t_ref05_FilterErr x)) (d_ref05_FilterErr x (fun z => z = t_ref05_FilterErr x) (pp_ref05_FilterErr x hx) (tt_ref05_FilterErr x hx)))⟩
/- base_CopyInts -/
def C_base_CopyInts : Cons := []
theorem hC_base_CopyInts : ConsOk Tryd.prog C_base_CopyInts := ConsOk.nil
def w_base_CopyInts (p0 : (List Int)) (K : (List Int) → Prop) : Prop :=
 (((((List.length ([] : List Int)) + (List.length p0)) * 8) ≤ 140737488355328) ∧
  (K (([] : List Int) ++ p0)))
set_option maxHeartbeats 4000000 in
theorem w_base_CopyInts_eq (p0 : (List Int)) (K : (List Int) → Prop) : tfnO F_base_CopyInts A_base_CopyInts C_base_CopyInts P_base_CopyInts E_base_CopyInts p0 K = w_base_CopyInts p0 K := by kernel_rfl
def s_base_CopyInts (p0 : (List Int)) : (List Int) :=
  (([] : List Int) ++ p0)
abbrev pre_base_CopyInts (p0 : (List Int)) : List Prop := [((((List.length ([] : List Int)) + (List.length p0)) * 8) ≤ 140737488355328)]
set_option maxHeartbeats 4000000 in
theorem d_base_CopyInts (p0 : (List Int)) (K : (List Int) → Prop) (hp : ∀ p ∈ pre_base_CopyInts p0, p) (h : K (s_base_CopyInts p0)) : w_base_CopyInts p0 K := by
  unfold w_base_CopyInts
  unfold s_base_CopyInts at h
  obtain ⟨hp0, _⟩ := conj_of hp
  exact ⟨(hp0), h⟩
abbrev t_base_CopyInts (p0 : List Int) : List Int := p0
abbrev qre_base_CopyInts (p0 : List Int) : List Prop := [p0.length ≤ 1000000]
theorem pp_base_CopyInts (p0 : List Int) (hq : ∀ p ∈ qre_base_CopyInts p0, p) : ∀ p ∈ pre_base_CopyInts p0, p := by
  simp only [pre_base_CopyInts, List.forall_mem_cons]
  have := (conj_of hq).1
  exact ⟨by simp; omega, by simp⟩
theorem tt_base_CopyInts (p0 : List Int) (hq : ∀ p ∈ qre_base_CopyInts p0, p) : s_base_CopyInts p0 = t_base_CopyInts p0 := by
  rfl

abbrev con_base_CopyInts : Con := ⟨P_base_CopyInts, [.one (.sl E_base_CopyInts)], fun x => qre_base_CopyInts x, fun x => t_base_CopyInts x⟩
theorem ok_base_CopyInts : ConOOk Tryd.prog 31 con_base_CopyInts := conO_tf (e := E_base_CopyInts) (ps := P_base_CopyInts) k_base_CopyInts e_base_CopyInts hC_base_CopyInts (fun x hx => tfo_of (w_base_CopyInts_eq x (fun z => z = t_base_CopyInts x)) (d_base_CopyInts x (fun z => z = t_base_CopyInts x) (pp_base_CopyInts x hx) (tt_base_CopyInts x hx)))
/- ref05_CopyFilter -/
def C_ref05_CopyFilter : Cons := [(31, ownMark, con_base_CopyInts)]
theorem hC_ref05_CopyFilter : ConsOk Tryd.prog C_ref05_CopyFilter := ConsOk.consO ok_base_CopyInts <| ConsOk.nil
def w_ref05_CopyFilter (p0 : (List Int)) (K : (List Int) → Prop) : Prop :=
 (((List.length p0) ≤ 1000000) ∧
  (K p0))
set_option maxHeartbeats 4000000 in
theorem w_ref05_CopyFilter_eq (p0 : (List Int)) (K : (List Int) → Prop) : tfn F_ref05_CopyFilter A_ref05_CopyFilter C_ref05_CopyFilter P_ref05_CopyFilter R_ref05_CopyFilter p0 K = w_ref05_CopyFilter p0 K := by kernel_rfl
def s_ref05_CopyFilter (p0 : (List Int)) : (List Int) :=
  p0
abbrev pre_ref05_CopyFilter (p0 : (List Int)) : List Prop := [((List.length p0) ≤ 1000000)]
set_option maxHeartbeats 4000000 in
theorem d_ref05_CopyFilter (p0 : (List Int)) (K : (List Int) → Prop) (hp : ∀ p ∈ pre_ref05_CopyFilter p0, p) (h : K (s_ref05_CopyFilter p0)) : w_ref05_CopyFilter p0 K := by
  unfold w_ref05_CopyFilter
  unfold s_ref05_CopyFilter at h
  obtain ⟨hp0, _⟩ := conj_of hp
  exact ⟨(hp0), h⟩
abbrev con_ref05_CopyFilter : Con := ⟨P_ref05_CopyFilter, R_ref05_CopyFilter, fun x => pre_ref05_CopyFilter x, fun x => s_ref05_CopyFilter x⟩
theorem ok_ref05_CopyFilter : ConOk Tryd.prog 18 con_ref05_CopyFilter := ⟨k_ref05_CopyFilter, fun x hx => ret_tf (ps := P_ref05_CopyFilter) (rs := R_ref05_CopyFilter) (x := x) (y := s_ref05_CopyFilter x) e_ref05_CopyFilter hC_ref05_CopyFilter (tf_of (w_ref05_CopyFilter_eq x (fun z => z = s_ref05_CopyFilter x)) (d_ref05_CopyFilter x (fun z => z = s_ref05_CopyFilter x) hx rfl))⟩
/- base_CopyRanges -/
def C_base_CopyRanges : Cons := []
theorem hC_base_CopyRanges : ConsOk Tryd.prog C_base_CopyRanges := ConsOk.nil
def w_base_CopyRanges (p0 : (List (Int × Int))) (K : (List (Int × Int)) → Prop) : Prop :=
 (((((List.length ([] : List (Int × Int))) + (List.length p0)) * 16) ≤ 140737488355328) ∧
  (K (([] : List (Int × Int)) ++ p0)))
set_option maxHeartbeats 4000000 in
theorem w_base_CopyRanges_eq (p0 : (List (Int × Int))) (K : (List (Int × Int)) → Prop) : tfn F_base_CopyRanges A_base_CopyRanges C_base_CopyRanges P_base_CopyRanges R_base_CopyRanges p0 K = w_base_CopyRanges p0 K := by kernel_rfl
def s_base_CopyRanges (p0 : (List (Int × Int))) : (List (Int × Int)) :=
  (([] : List (Int × Int)) ++ p0)
abbrev pre_base_CopyRanges (p0 : (List (Int × Int))) : List Prop := [((((List.length ([] : List (Int × Int))) + (List.length p0)) * 16) ≤ 140737488355328)]
set_option maxHeartbeats 4000000 in
theorem d_base_CopyRanges (p0 : (List (Int × Int))) (K : (List (Int × Int)) → Prop) (hp : ∀ p ∈ pre_base_CopyRanges p0, p) (h : K (s_base_CopyRanges p0)) : w_base_CopyRanges p0 K := by
  unfold w_base_CopyRanges
  unfold s_base_CopyRanges at h
  obtain ⟨hp0, _⟩ := conj_of hp
  exact ⟨(hp0), h⟩
abbrev t_base_CopyRanges (p0 : List (Int × Int)) : List (Int × Int) := p0
abbrev qre_base_CopyRanges (p0 : List (Int × Int)) : List Prop := [p0.length ≤ 1000000]
theorem pp_base_CopyRanges (p0 : List (Int × Int)) (hq : ∀ p ∈ qre_base_CopyRanges p0, p) : ∀ p ∈ pre_base_CopyRanges p0, p := by
  simp only [pre_base_CopyRanges, List.forall_mem_cons]
  have := (conj_of hq).1
  exact ⟨by simp; omega, by simp⟩
theorem tt_base_CopyRanges (p0 : List (Int × Int)) (hq : ∀ p ∈ qre_base_CopyRanges p0, p) : s_base_CopyRanges p0 = t_base_CopyRanges p0 := by
  rfl

abbrev con_base_CopyRanges : Con := ⟨P_base_CopyRanges, R_base_CopyRanges, fun x => qre_base_CopyRanges x, fun x => t_base_CopyRanges x⟩
theorem ok_base_CopyRanges : ConOk Tryd.prog 28 con_base_CopyRanges := ⟨k_base_CopyRanges, fun x hx => ret_tf (ps := P_base_CopyRanges) (rs := R_base_CopyRanges) (x := x) (y := t_base_CopyRanges x) e_base_CopyRanges hC_base_CopyRanges (tf_of (w_base_CopyRanges_eq x (fun z => z = t_base_CopyRanges x)) (d_base_CopyRanges x (fun z => z = t_base_CopyRanges x) (pp_base_CopyRanges x hx) (tt_base_CopyRanges x hx)))⟩
/- gravity_rangeErr -/
def C_gravity_rangeErr : Cons := [(93, [], con_gravity_isSized), (89, [], con_gravity_unless), (88, [], con_gravity_first)]
theorem hC_gravity_rangeErr : ConsOk Tryd.prog C_gravity_rangeErr := ConsOk.cons ok_gravity_isSized <| ConsOk.cons ok_gravity_unless <| ConsOk.cons ok_gravity_first <| ConsOk.nil
def w_gravity_rangeErr (p0 : (Int × Int)) (p1 : Int) (K : Int → Prop) : Prop :=
 ((((s_gravity_isSized p0.1 p1) = true) →
  ((s_gravity_isSized p0.1 p1) = (s_gravity_isSized p0.1 p1))) ∧
  ((((s_gravity_isSized p0.1 p1) = true) →
  ((s_gravity_isSized p0.1 p1) = (s_gravity_isSized p0.1 p1))) ∧
  ((((s_gravity_isSized p0.1 p1) = true) →
  ((s_gravity_isSized p0.1 p1) = (s_gravity_isSized p0.1 p1))) ∧
  (((s_gravity_isSized p0.1 p1) = (s_gravity_isSized p0.1 p1)) ∧
  ((lenOk ((s_gravity_unless (cond (s_gravity_isSized p0.1 p1) (s_gravity_isSized p0.2 p1) false) (2 : Int)) :: ((s_gravity_unless (decide (p0.1 ≤ p0.2)) (9 : Int)) :: ([] : List Int)))) ∧
  (K (v_first ((s_gravity_unless (cond (s_gravity_isSized p0.1 p1) (s_gravity_isSized p0.2 p1) false) (2 : Int)) :: ((s_gravity_unless (decide (p0.1 ≤ p0.2)) (9 : Int)) :: ([] : List Int))))))))))
set_option maxHeartbeats 4000000 in
theorem w_gravity_rangeErr_eq (p0 : (Int × Int)) (p1 : Int) (K : Int → Prop) : tfn F_gravity_rangeErr A_gravity_rangeErr C_gravity_rangeErr P_gravity_rangeErr R_gravity_rangeErr (p0, p1) K = w_gravity_rangeErr p0 p1 K := by kernel_rfl
def s_gravity_rangeErr (p0 : (Int × Int)) (p1 : Int) : Int :=
  (v_first ((s_gravity_unless (cond (s_gravity_isSized p0.1 p1) (s_gravity_isSized p0.2 p1) false) (2 : Int)) :: ((s_gravity_unless (decide (p0.1 ≤ p0.2)) (9 : Int)) :: ([] : List Int))))
abbrev pre_gravity_rangeErr (p0 : (Int × Int)) (p1 : Int) : List Prop := []
set_option maxHeartbeats 4000000 in
theorem d_gravity_rangeErr (p0 : (Int × Int)) (p1 : Int) (K : Int → Prop) (hp : ∀ p ∈ pre_gravity_rangeErr p0 p1, p) (h : K (s_gravity_rangeErr p0 p1)) : w_gravity_rangeErr p0 p1 K := by
  unfold w_gravity_rangeErr
  unfold s_gravity_rangeErr at h
  exact ⟨rf, rf, rf, rfl, (lenOk_of 2 rfl (by decide)), h⟩
abbrev con_gravity_rangeErr : Con := ⟨P_gravity_rangeErr, R_gravity_rangeErr, fun x => pre_gravity_rangeErr x.1 x.2, fun x => s_gravity_rangeErr x.1 x.2⟩
theorem ok_gravity_rangeErr : ConOk Tryd.prog 98 con_gravity_rangeErr := ⟨k_gravity_rangeErr, fun x hx => ret_tf (ps := P_gravity_rangeErr) (rs := R_gravity_rangeErr) (x := x) (y := s_gravity_rangeErr x.1 x.2) e_gravity_rangeErr hC_gravity_rangeErr (tf_of (w_gravity_rangeErr_eq x.1 x.2 (fun z => z = s_gravity_rangeErr x.1 x.2)) (d_gravity_rangeErr x.1 x.2 (fun z => z = s_gravity_rangeErr x.1 x.2) hx rfl))⟩
theorem tx_within' {n lo hi : Int} : s_gravity_within n lo hi = true ↔ lo ≤ n ∧ n ≤ hi := by unfold s_gravity_within; simp
theorem tx_range3 {x : Int × Int} (h : s_gravity_rangeErr x 1000000 = 0) : (-1000000 ≤ x.1 ∧ x.1 ≤ 1000000) ∧ (-1000000 ≤ x.2 ∧ x.2 ≤ 1000000) ∧ x.1 ≤ x.2 := by
  unfold s_gravity_rangeErr s_gravity_isSized at h
  rw [show IntKind.i64.wrap (0 - 1000000) = -1000000 from rfl] at h
  obtain ⟨h1, h⟩ := v_first0 h
  obtain ⟨h2, _⟩ := v_first0 h
  cases a : s_gravity_within x.1 (-1000000) 1000000 <;> cases b : s_gravity_within x.2 (-1000000) 1000000 <;> by_cases c : x.1 ≤ x.2 <;> simp [s_gravity_unless, a, b, c] at h1 h2
  exact ⟨tx_within'.1 a, tx_within'.1 b, c⟩
/- gravity_CheckHeights -/
def C_gravity_CheckHeights : Cons := [(98, [], con_gravity_rangeErr)]
theorem hC_gravity_CheckHeights : ConsOk Tryd.prog C_gravity_CheckHeights := ConsOk.cons ok_gravity_rangeErr <| ConsOk.nil
def w_gravity_CheckHeights (p0 : (List (Int × Int))) (K : (Int × Int) → Prop) : Prop :=
 ((((decide ((((List.length p0) : Nat) : Int) > (64 : Int))) = true) →
  (K ((0 : Int), (8 : Int)))) ∧
  (((decide ((((List.length p0) : Nat) : Int) > (64 : Int))) = false) →
  (∃ n0, (loopP (fun (y1 : Int) k2 =>
      ((((decide (y1 < (((List.length p0) : Nat) : Int))) = true) →
      (((0 : Int) ≤ y1) ∧
        ((y1 < (((List.length p0) : Nat) : Int)) ∧
        (((((s_gravity_rangeErr (List.getD p0 (Int.toNat y1) ((0 : Int), (0 : Int))) (1000000 : Int)) != (0 : Int)) = true) →
        (K (y1, (s_gravity_rangeErr (List.getD p0 (Int.toNat y1) ((0 : Int), (0 : Int))) (1000000 : Int))))) ∧
        ((((s_gravity_rangeErr (List.getD p0 (Int.toNat y1) ((0 : Int), (0 : Int))) (1000000 : Int)) != (0 : Int)) = false) →
        (k2 (IntKind.i64.wrap (y1 + (1 : Int))))))))) ∧
      (((decide (y1 < (((List.length p0) : Nat) : Int))) = false) →
      (K ((0 : Int), (0 : Int)))))) n0 (0 : Int)))))
set_option maxHeartbeats 4000000 in
theorem w_gravity_CheckHeights_eq (p0 : (List (Int × Int))) (K : (Int × Int) → Prop) : tfn F_gravity_CheckHeights A_gravity_CheckHeights C_gravity_CheckHeights P_gravity_CheckHeights R_gravity_CheckHeights p0 K = w_gravity_CheckHeights p0 K := by kernel_rfl
def st_gravity_CheckHeights_0 (p0 : (List (Int × Int))) (y1 : Int) : Int ⊕ (Int × Int) :=
  (cond (decide (y1 < (((List.length p0) : Nat) : Int))) (cond ((s_gravity_rangeErr (List.getD p0 (Int.toNat y1) ((0 : Int), (0 : Int))) (1000000 : Int)) != (0 : Int)) (Sum.inr (y1, (s_gravity_rangeErr (List.getD p0 (Int.toNat y1) ((0 : Int), (0 : Int))) (1000000 : Int))))
    (Sum.inl (IntKind.i64.wrap (y1 + (1 : Int)))))
    (Sum.inr ((0 : Int), (0 : Int))))
abbrev sp_gravity_CheckHeights_0 (p0 : (List (Int × Int))) (y1 : Int) : List Prop := [(((decide (y1 < (((List.length p0) : Nat) : Int))) = true) → ((0 : Int) ≤ y1)),
    (((decide (y1 < (((List.length p0) : Nat) : Int))) = true) → (y1 < (((List.length p0) : Nat) : Int)))]
def s_gravity_CheckHeights (p0 : (List (Int × Int))) : (Int × Int) :=
  (cond (decide ((((List.length p0) : Nat) : Int) > (64 : Int))) ((0 : Int), (8 : Int))
    (lpv ((0 : Int), (0 : Int)) (st_gravity_CheckHeights_0 p0) (0 : Int)))
abbrev pre_gravity_CheckHeights (p0 : (List (Int × Int))) : List Prop := [(((decide ((((List.length p0) : Nat) : Int) > (64 : Int))) = false) → (OkL (st_gravity_CheckHeights_0 p0) (sp_gravity_CheckHeights_0 p0) (0 : Int)))]
set_option maxHeartbeats 4000000 in
theorem d_gravity_CheckHeights (p0 : (List (Int × Int))) (K : (Int × Int) → Prop) (hp : ∀ p ∈ pre_gravity_CheckHeights p0, p) (h : K (s_gravity_CheckHeights p0)) : w_gravity_CheckHeights p0 K := by
  unfold w_gravity_CheckHeights
  unfold s_gravity_CheckHeights at h
  obtain ⟨hp0, _⟩ := conj_of hp
  exact (br' h (fun e0 h => h)
    (fun e0 h => (loop_gen (hp0 e0) h (fun y1 k1 hp h => by
  unfold st_gravity_CheckHeights_0 at h; obtain ⟨hp0, hp1, _⟩ := conj_of hp
  exact (br' h (fun e2 h => ⟨(hp0 e2), (hp1 e2), (br' h (fun e3 h => h)
    (fun e3 h => h))⟩)
    (fun e2 h => h))))))
theorem l_gravity_CheckHeights_0 (p0 : List (Int × Int)) (hl : lenOk p0) : OkL (st_gravity_CheckHeights_0 p0) (sp_gravity_CheckHeights_0 p0) 0 ∧ lpv ((0 : Int), (0 : Int)) (st_gravity_CheckHeights_0 p0) 0 = v_scan (fun i x => cond (s_gravity_rangeErr x 1000000 != 0) (some (i, s_gravity_rangeErr x 1000000)) none) ((0 : Int), (0 : Int)) 0 p0 := by
  refine scan_is p0 (0, 0) (fun i x => cond (s_gravity_rangeErr x 1000000 != 0) (some (i, s_gravity_rangeErr x 1000000)) none) ((0 : Int), (0 : Int)) hl ?_ ?_
  · refine ⟨by simp only [sp_gravity_CheckHeights_0, List.forall_mem_cons, decide_eq_true_eq]; simp, by simp [st_gravity_CheckHeights_0]⟩
  · intro j hj
    have hj' : (j : Int) < p0.length := by omega
    refine ⟨by simp only [sp_gravity_CheckHeights_0, List.forall_mem_cons, decide_eq_true_eq, Int.toNat_natCast]; simp <;> omega, ?_⟩
    simp only [st_gravity_CheckHeights_0, hj', decide_true, Int.toNat_natCast, cond_true, wrap_nat (show (j : Int) ≤ 9223372036854775806 by unfold lenOk at hl; omega)]
    generalize p0.getD j (0, 0) = x
    cases (s_gravity_rangeErr x 1000000 != 0) <;> rfl
/-- The error of ranges, with an index. -/
def v_heights (p0 : List (Int × Int)) : Int × Int := cond (decide ((p0.length : Int) > 64)) (0, 8) (v_scan (fun i x => cond (s_gravity_rangeErr x 1000000 != 0) (some (i, s_gravity_rangeErr x 1000000)) none) ((0 : Int), (0 : Int)) 0 p0)
abbrev t_gravity_CheckHeights (p0 : List (Int × Int)) : Int × Int := v_heights p0
abbrev qre_gravity_CheckHeights (_ : List (Int × Int)) : List Prop := []
theorem pp_gravity_CheckHeights (p0 : List (Int × Int)) (_ : ∀ p ∈ qre_gravity_CheckHeights p0, p) : ∀ p ∈ pre_gravity_CheckHeights p0, p := by
  simp only [pre_gravity_CheckHeights, List.forall_mem_cons]
  refine ⟨fun h => (l_gravity_CheckHeights_0 p0 (lenOk_le (n := 64) ?_ (by decide))).1, by simp⟩
  have := of_decide_eq_false h; omega
theorem tt_gravity_CheckHeights (p0 : List (Int × Int)) (_ : ∀ p ∈ qre_gravity_CheckHeights p0, p) : s_gravity_CheckHeights p0 = t_gravity_CheckHeights p0 := by
  unfold s_gravity_CheckHeights t_gravity_CheckHeights v_heights
  cases h : decide ((p0.length : Int) > 64)
  · have := of_decide_eq_false h
    exact (l_gravity_CheckHeights_0 p0 (lenOk_le (n := 64) (by omega) (by decide))).2
  · rfl
structure v_hok (p0 : List (Int × Int)) : Prop where
  len : p0.length ≤ 64
  all : ∀ x ∈ p0, (-1000000 ≤ x.1 ∧ x.1 ≤ 1000000) ∧ (-1000000 ≤ x.2 ∧ x.2 ≤ 1000000) ∧ x.1 ≤ x.2
theorem tx_range {x : Int × Int} {m : Int} (hm : 0 ≤ m ∧ m ≤ 1000000000) (h : s_gravity_rangeErr x m = 0) : (-m ≤ x.1 ∧ x.1 ≤ m) ∧ (-m ≤ x.2 ∧ x.2 ≤ m) ∧ x.1 ≤ x.2 := by
  unfold s_gravity_rangeErr s_gravity_isSized at h
  have e : IntKind.i64.wrap (0 - m) = -m := by rw [wrap_id (by omega) (by omega)]; omega
  rw [e] at h
  obtain ⟨h1, h⟩ := v_first0 h
  obtain ⟨h2, _⟩ := v_first0 h
  cases a : s_gravity_within x.1 (-m) m <;> cases b : s_gravity_within x.2 (-m) m <;> by_cases c : x.1 ≤ x.2 <;> simp [s_gravity_unless, a, b, c] at h1 h2
  exact ⟨tx_within.1 a, tx_within.1 b, c⟩
theorem tx_heights {p0 : List (Int × Int)} (h : (v_heights p0).2 = 0) : v_hok p0 := by
  unfold v_heights at h
  cases hl : decide ((p0.length : Int) > 64)
  · rw [hl] at h
    have hl' := of_decide_eq_false hl
    refine ⟨by omega, fun x hx => ?_⟩
    have := v_scan_end (P := fun (r : Int × Int) => r.2 = 0) p0 0 h (fun j x v _ hv => by
      cases hb : (s_gravity_rangeErr x 1000000 != 0) <;> rw [hb] at hv <;> simp only [cond_true, cond_false, Option.some.injEq, reduceCtorEq] at hv
      subst hv; simpa using hb)
    obtain ⟨k, hk, rfl⟩ := List.mem_iff_getElem.1 hx
    have := this k hk
    cases hb : (s_gravity_rangeErr p0[k] 1000000 != 0)
    · exact tx_range (m := 1000000) (by decide) (bne0' hb)
    · rw [hb] at this; cases this
  · rw [hl] at h; cases h

abbrev con_gravity_CheckHeights : Con := ⟨P_gravity_CheckHeights, R_gravity_CheckHeights, fun x => qre_gravity_CheckHeights x, fun x => t_gravity_CheckHeights x⟩
theorem ok_gravity_CheckHeights : ConOk Tryd.prog 27 con_gravity_CheckHeights := ⟨k_gravity_CheckHeights, fun x hx => ret_tf (ps := P_gravity_CheckHeights) (rs := R_gravity_CheckHeights) (x := x) (y := t_gravity_CheckHeights x) e_gravity_CheckHeights hC_gravity_CheckHeights (tf_of (w_gravity_CheckHeights_eq x (fun z => z = t_gravity_CheckHeights x)) (d_gravity_CheckHeights x (fun z => z = t_gravity_CheckHeights x) (pp_gravity_CheckHeights x hx) (tt_gravity_CheckHeights x hx)))⟩
/- gravity_rangesErr -/
def C_gravity_rangesErr : Cons := [(27, [], con_gravity_CheckHeights)]
theorem hC_gravity_rangesErr : ConsOk Tryd.prog C_gravity_rangesErr := ConsOk.cons ok_gravity_CheckHeights <| ConsOk.nil
def w_gravity_rangesErr (p0 : (List (Int × Int))) (K : Int → Prop) : Prop :=
 (K (v_heights p0).2)
set_option maxHeartbeats 4000000 in
theorem w_gravity_rangesErr_eq (p0 : (List (Int × Int))) (K : Int → Prop) : tfn F_gravity_rangesErr A_gravity_rangesErr C_gravity_rangesErr P_gravity_rangesErr R_gravity_rangesErr p0 K = w_gravity_rangesErr p0 K := by kernel_rfl
def s_gravity_rangesErr (p0 : (List (Int × Int))) : Int :=
  (v_heights p0).2
abbrev pre_gravity_rangesErr (p0 : (List (Int × Int))) : List Prop := []
set_option maxHeartbeats 4000000 in
theorem d_gravity_rangesErr (p0 : (List (Int × Int))) (K : Int → Prop) (hp : ∀ p ∈ pre_gravity_rangesErr p0, p) (h : K (s_gravity_rangesErr p0)) : w_gravity_rangesErr p0 K := by
  unfold w_gravity_rangesErr
  unfold s_gravity_rangesErr at h
  exact h
abbrev con_gravity_rangesErr : Con := ⟨P_gravity_rangesErr, R_gravity_rangesErr, fun x => pre_gravity_rangesErr x, fun x => s_gravity_rangesErr x⟩
theorem ok_gravity_rangesErr : ConOk Tryd.prog 99 con_gravity_rangesErr := ⟨k_gravity_rangesErr, fun x hx => ret_tf (ps := P_gravity_rangesErr) (rs := R_gravity_rangesErr) (x := x) (y := s_gravity_rangesErr x) e_gravity_rangesErr hC_gravity_rangesErr (tf_of (w_gravity_rangesErr_eq x (fun z => z = s_gravity_rangesErr x)) (d_gravity_rangesErr x (fun z => z = s_gravity_rangesErr x) hx rfl))⟩
/- gravity_both_p -/
def C_gravity_both_p : Cons := [(125, ownMark, con_slices_Cloneint_int), (129, nMark 1, con_slices_Reverseint_int)]
theorem hC_gravity_both_p : ConsOk Tryd.prog C_gravity_both_p := ConsOk.consO ok_slices_Cloneint_int <| ConsOk.consN ok_slices_Reverseint_int <| ConsOk.nil
def w_gravity_both_p (p0 : (List Int)) (K : (List Int) → Prop) : Prop :=
 (((List.length p0) ≤ 1000000) ∧
  ((0 < (List.length p0)) ∧
  (((List.length p0) ≤ 1000000) ∧
  (((0 : Int) ≤ (1 : Int)) ∧
  (((1 : Int) ≤ (((List.length p0) : Nat) : Int)) ∧
  (((((List.length (v_rev p0)) + (List.length (List.drop (Int.toNat (1 : Int)) p0))) * 8) ≤ 140737488355328) ∧
  (K ((v_rev p0) ++ (List.drop (Int.toNat (1 : Int)) p0)))))))))
set_option maxHeartbeats 4000000 in
theorem w_gravity_both_p_eq (p0 : (List Int)) (K : (List Int) → Prop) : tfn F_gravity_both_p A_gravity_both_p C_gravity_both_p P_gravity_both_p R_gravity_both_p p0 K = w_gravity_both_p p0 K := by kernel_rfl
def s_gravity_both_p (p0 : (List Int)) : (List Int) :=
  ((v_rev p0) ++ (List.drop (Int.toNat (1 : Int)) p0))
abbrev pre_gravity_both_p (p0 : (List Int)) : List Prop := [((List.length p0) ≤ 1000000),
    (0 < (List.length p0)),
    ((1 : Int) ≤ (((List.length p0) : Nat) : Int)),
    ((((List.length (v_rev p0)) + (List.length (List.drop (Int.toNat (1 : Int)) p0))) * 8) ≤ 140737488355328)]
set_option maxHeartbeats 4000000 in
theorem d_gravity_both_p (p0 : (List Int)) (K : (List Int) → Prop) (hp : ∀ p ∈ pre_gravity_both_p p0, p) (h : K (s_gravity_both_p p0)) : w_gravity_both_p p0 K := by
  unfold w_gravity_both_p
  unfold s_gravity_both_p at h
  obtain ⟨hp0, hp1, hp2, hp3, _⟩ := conj_of hp
  exact ⟨(hp0), (hp1), (hp0), (od rfl), (hp2), (hp3), h⟩
abbrev t_gravity_both_p (p0 : List Int) : List Int := v_both p0
abbrev qre_gravity_both_p (p0 : List Int) : List Prop := [1 ≤ p0.length ∧ p0.length ≤ 1000000]
theorem pp_gravity_both_p (p0 : List Int) (hq : ∀ p ∈ qre_gravity_both_p p0, p) : ∀ p ∈ pre_gravity_both_p p0, p := by
  have h := (conj_of hq).1
  simp only [pre_gravity_both_p, List.forall_mem_cons]
  exact ⟨h.2, by omega, by omega, by simp [v_rev]; omega, by simp⟩
theorem tt_gravity_both_p (p0 : List Int) (hq : ∀ p ∈ qre_gravity_both_p p0, p) : s_gravity_both_p p0 = t_gravity_both_p p0 := by
  rfl

abbrev con_gravity_both_p : Con := ⟨P_gravity_both_p, R_gravity_both_p, fun x => qre_gravity_both_p x, fun x => t_gravity_both_p x⟩
theorem ok_gravity_both_p : ConOk Tryd.prog 90 con_gravity_both_p := ⟨k_gravity_both_p, fun x hx => ret_tf (ps := P_gravity_both_p) (rs := R_gravity_both_p) (x := x) (y := t_gravity_both_p x) e_gravity_both_p hC_gravity_both_p (tf_of (w_gravity_both_p_eq x (fun z => z = t_gravity_both_p x)) (d_gravity_both_p x (fun z => z = t_gravity_both_p x) (pp_gravity_both_p x hx) (tt_gravity_both_p x hx)))⟩
/- gravity_windows -/
def C_gravity_windows : Cons := []
theorem hC_gravity_windows : ConsOk Tryd.prog C_gravity_windows := ConsOk.nil
def w_gravity_windows (p0 : (List (Int × Int))) (p1 : Int) (K : ((List (Int × Int)) × (Int × PUnit)) → Prop) : Prop :=
 (K (p0, (p1, ())))
set_option maxHeartbeats 4000000 in
theorem w_gravity_windows_eq (p0 : (List (Int × Int))) (p1 : Int) (K : ((List (Int × Int)) × (Int × PUnit)) → Prop) : tfn F_gravity_windows A_gravity_windows C_gravity_windows P_gravity_windows R_gravity_windows (p0, p1) K = w_gravity_windows p0 p1 K := by kernel_rfl
def s_gravity_windows (p0 : (List (Int × Int))) (p1 : Int) : ((List (Int × Int)) × (Int × PUnit)) :=
  (p0, (p1, ()))
abbrev pre_gravity_windows (p0 : (List (Int × Int))) (p1 : Int) : List Prop := []
set_option maxHeartbeats 4000000 in
theorem d_gravity_windows (p0 : (List (Int × Int))) (p1 : Int) (K : ((List (Int × Int)) × (Int × PUnit)) → Prop) (hp : ∀ p ∈ pre_gravity_windows p0 p1, p) (h : K (s_gravity_windows p0 p1)) : w_gravity_windows p0 p1 K := by
  unfold w_gravity_windows
  unfold s_gravity_windows at h
  exact h
abbrev con_gravity_windows : Con := ⟨P_gravity_windows, R_gravity_windows, fun x => pre_gravity_windows x.1 x.2, fun x => s_gravity_windows x.1 x.2⟩
theorem ok_gravity_windows : ConOk Tryd.prog 100 con_gravity_windows := ⟨k_gravity_windows, fun x hx => ret_tf (ps := P_gravity_windows) (rs := R_gravity_windows) (x := x) (y := s_gravity_windows x.1 x.2) e_gravity_windows hC_gravity_windows (tf_of (w_gravity_windows_eq x.1 x.2 (fun z => z = s_gravity_windows x.1 x.2)) (d_gravity_windows x.1 x.2 (fun z => z = s_gravity_windows x.1 x.2) hx rfl))⟩
/- gravity_windows_1 -/
/-- So many that follow one another, at each place. -/
def v_windows (l : List (Int × Int)) (c : Int) : List (Int × List (Int × Int)) := (List.range (max 0 ((l.length : Int) - c + 1)).toNat).map fun (k : Nat) => ((k : Int), (l.drop k).take c.toNat)
theorem v_windows_eq (l : List (Int × Int)) (c : Int) (hc : 1 ≤ c) : v_wins (l.map (Ty.enc (.pr (.int .i64) (.int .i64)))) false c = (v_windows l c).map (valPs [.one (.int .i64), .one (.sl (.pr (.int .i64) (.int .i64)))]) := by
  unfold v_wins v_windows
  rw [List.map_map, List.length_map]
  refine List.map_congr_left fun k _ => ?_
  simp only [Function.comp, valPs, valP, Ty.enc, Bool.false_and, List.map_take, List.map_drop, Ty.n]
  rw [show ((k : Int) + c).toNat - (k : Int).toNat = c.toNat by omega]
abbrev con_gravity_windows_1 : Con := ⟨.fn 130 [.sl (.pr (.int .i64) (.int .i64)), .int .i64] :: .one (.int .i64) :: [.one (.sl (.pr (.int .i64) (.int .i64)))], [.one (.sl (tyPs (.one (.int .i64) :: [.one (.sl (.pr (.int .i64) (.int .i64)))])))], fun x => [1 ≤ x.1.2.1, x.1.2.1 ≤ 1000000, x.1.1.length ≤ 1000000], fun x => v_windows x.1.1 x.1.2.1⟩
theorem ok_gravity_windows_1 : ConIOk Tryd.prog 130 con_gravity_windows_1 := by
  refine ⟨rfl, k_gravity_windows_1, rfl, fun x hx => ?_⟩
  obtain ⟨h1, h2, h3, _⟩ := conj_of hx
  show Iter Tryd.prog 130 [[.sl 2 (x.1.map (Ty.enc (.pr (.int .i64) (.int .i64)))) false], [.int .i64 x.2.1]] ((v_windows x.1 x.2.1).map (valPs [.one (.int .i64), .one (.sl (.pr (.int .i64) (.int .i64)))]))
  rw [← v_windows_eq x.1 x.2.1 h1]
  exact it_windows _ false x.2.1 h1 h2 (by rw [List.length_map]; exact h3)
/- gravity_linear -/
def C_gravity_linear : Cons := []
theorem hC_gravity_linear : ConsOk Tryd.prog C_gravity_linear := ConsOk.nil
def w_gravity_linear (p0 : (List Int)) (p1 : (List (Int × Int))) (K : (Int × Int) → Prop) : Prop :=
 (∃ n0, (loopP (fun (y1 : (Int × (Int × Int))) k2 =>
    ((((decide (y1.1 < (((List.length p0) : Nat) : Int))) = true) →
    (((0 : Int) ≤ y1.1) ∧
      ((y1.1 < (((List.length p0) : Nat) : Int)) ∧
      (((0 : Int) ≤ y1.1) ∧
      ((y1.1 < (((List.length p1) : Nat) : Int)) ∧
      (((0 : Int) ≤ y1.1) ∧
      ((y1.1 < (((List.length p1) : Nat) : Int)) ∧
      (k2 ((IntKind.i64.wrap (y1.1 + (1 : Int))), ((IntKind.i64.wrap (y1.2.1 + (min (IntKind.i64.wrap ((List.getD p0 (Int.toNat y1.1) (0 : Int)) * (List.getD p1 (Int.toNat y1.1) ((0 : Int), (0 : Int))).1)) (IntKind.i64.wrap ((List.getD p0 (Int.toNat y1.1) (0 : Int)) * (List.getD p1 (Int.toNat y1.1) ((0 : Int), (0 : Int))).2))))), (IntKind.i64.wrap (y1.2.2 + (max (IntKind.i64.wrap ((List.getD p0 (Int.toNat y1.1) (0 : Int)) * (List.getD p1 (Int.toNat y1.1) ((0 : Int), (0 : Int))).1)) (IntKind.i64.wrap ((List.getD p0 (Int.toNat y1.1) (0 : Int)) * (List.getD p1 (Int.toNat y1.1) ((0 : Int), (0 : Int))).2))))))))))))))) ∧
    (((decide (y1.1 < (((List.length p0) : Nat) : Int))) = false) →
    (K y1.2)))) n0 ((0 : Int), ((0 : Int), (0 : Int)))))
set_option maxHeartbeats 4000000 in
theorem w_gravity_linear_eq (p0 : (List Int)) (p1 : (List (Int × Int))) (K : (Int × Int) → Prop) : tfn F_gravity_linear A_gravity_linear C_gravity_linear P_gravity_linear R_gravity_linear (p0, p1) K = w_gravity_linear p0 p1 K := by kernel_rfl
def st_gravity_linear_0 (p0 : (List Int)) (p1 : (List (Int × Int))) (y0 : (Int × (Int × Int))) : (Int × (Int × Int)) ⊕ (Int × Int) :=
  (cond (decide (y0.1 < (((List.length p0) : Nat) : Int))) (Sum.inl ((IntKind.i64.wrap (y0.1 + (1 : Int))), ((IntKind.i64.wrap (y0.2.1 + (min (IntKind.i64.wrap ((List.getD p0 (Int.toNat y0.1) (0 : Int)) * (List.getD p1 (Int.toNat y0.1) ((0 : Int), (0 : Int))).1)) (IntKind.i64.wrap ((List.getD p0 (Int.toNat y0.1) (0 : Int)) * (List.getD p1 (Int.toNat y0.1) ((0 : Int), (0 : Int))).2))))), (IntKind.i64.wrap (y0.2.2 + (max (IntKind.i64.wrap ((List.getD p0 (Int.toNat y0.1) (0 : Int)) * (List.getD p1 (Int.toNat y0.1) ((0 : Int), (0 : Int))).1)) (IntKind.i64.wrap ((List.getD p0 (Int.toNat y0.1) (0 : Int)) * (List.getD p1 (Int.toNat y0.1) ((0 : Int), (0 : Int))).2))))))))
    (Sum.inr y0.2))
abbrev sp_gravity_linear_0 (p0 : (List Int)) (p1 : (List (Int × Int))) (y0 : (Int × (Int × Int))) : List Prop := [(((decide (y0.1 < (((List.length p0) : Nat) : Int))) = true) → ((0 : Int) ≤ y0.1)),
    (((decide (y0.1 < (((List.length p0) : Nat) : Int))) = true) → (y0.1 < (((List.length p0) : Nat) : Int))),
    (((decide (y0.1 < (((List.length p0) : Nat) : Int))) = true) → (y0.1 < (((List.length p1) : Nat) : Int)))]
def s_gravity_linear (p0 : (List Int)) (p1 : (List (Int × Int))) : (Int × Int) :=
  (lpv ((0 : Int), (0 : Int)) (st_gravity_linear_0 p0 p1) ((0 : Int), ((0 : Int), (0 : Int))))
abbrev pre_gravity_linear (p0 : (List Int)) (p1 : (List (Int × Int))) : List Prop := [(OkL (st_gravity_linear_0 p0 p1) (sp_gravity_linear_0 p0 p1) ((0 : Int), ((0 : Int), (0 : Int))))]
set_option maxHeartbeats 4000000 in
theorem d_gravity_linear (p0 : (List Int)) (p1 : (List (Int × Int))) (K : (Int × Int) → Prop) (hp : ∀ p ∈ pre_gravity_linear p0 p1, p) (h : K (s_gravity_linear p0 p1)) : w_gravity_linear p0 p1 K := by
  unfold w_gravity_linear
  unfold s_gravity_linear at h
  obtain ⟨hp0, _⟩ := conj_of hp
  exact (loop_gen (hp0) h (fun y0 k0 hp h => by
  unfold st_gravity_linear_0 at h; obtain ⟨hp0, hp1, hp2, _⟩ := conj_of hp
  exact (br' h (fun e1 h => ⟨(hp0 e1), (hp1 e1), (hp0 e1), (hp2 e1), (hp0 e1), (hp2 e1), h⟩)
    (fun e1 h => h))))
/-- The range of the sum of weights times numbers within ranges. -/
def v_lin : List Int → List (Int × Int) → Int × Int
  | w :: ws, x :: xs => (min (w * x.1) (w * x.2) + (v_lin ws xs).1, max (w * x.1) (w * x.2) + (v_lin ws xs).2)
  | _, _ => (0, 0)
theorem v_prod {w x m : Int} (hw : -m ≤ w ∧ w ≤ m) (hx : -1000000 ≤ x ∧ x ≤ 1000000) (hm : 0 ≤ m) : -(m * 1000000) ≤ w * x ∧ w * x ≤ m * 1000000 := by
  have h1 : 0 ≤ (m - w) * (1000000 + x) := Int.mul_nonneg (by omega) (by omega)
  have h2 : 0 ≤ (m + w) * (1000000 - x) := Int.mul_nonneg (by omega) (by omega)
  have h3 : 0 ≤ (m - w) * (1000000 - x) := Int.mul_nonneg (by omega) (by omega)
  have h4 : 0 ≤ (m + w) * (1000000 + x) := Int.mul_nonneg (by omega) (by omega)
  simp only [Int.sub_mul, Int.add_mul, Int.mul_add, Int.mul_sub] at h1 h2 h3 h4
  omega
/-- Weights, and numbers within ranges, whose sums fit. -/
structure v_linok (p0 : List Int) (p1 : List (Int × Int)) : Prop where
  len : p0.length ≤ p1.length
  few : p0.length ≤ 100
  w : ∀ x ∈ p0, -1000000 ≤ x ∧ x ≤ 1000000
  x : ∀ x ∈ p1, (-1000000 ≤ x.1 ∧ x.1 ≤ 1000000) ∧ (-1000000 ≤ x.2 ∧ x.2 ≤ 1000000)
theorem l_gravity_linear (p0 : List Int) (p1 : List (Int × Int)) (h : v_linok p0 p1) : OkL (st_gravity_linear_0 p0 p1) (sp_gravity_linear_0 p0 p1) (0, 0, 0) ∧ s_gravity_linear p0 p1 = v_lin p0 p1 := by
  have hf := h.few
  have hle := h.len
  have := list_is (dd := ((0 : Int), (0 : Int))) (st := st_gravity_linear_0 p0 p1) (sp := sp_gravity_linear_0 p0 p1) (fun i (t : Int × Int) => (i, t)) p0 0
    (fun r t => r.length ≤ p0.length ∧ (-((p0.length - r.length) * 1000000000000) ≤ t.1 ∧ t.1 ≤ ((p0.length - r.length) * 1000000000000)) ∧ (-((p0.length - r.length) * 1000000000000) ≤ t.2 ∧ t.2 ≤ ((p0.length - r.length) * 1000000000000)))
    (fun r t => (t.1 + (v_lin r (p1.drop (p0.length - r.length))).1, t.2 + (v_lin r (p1.drop (p0.length - r.length))).2)) (by unfold lenOk; omega) ?_ ?_ (0, 0) ⟨Nat.le_refl _, by simp, by simp⟩
  · refine ⟨this.1, this.2.trans ?_⟩
    simp
  · intro t _
    refine ⟨by simp only [sp_gravity_linear_0, List.forall_mem_cons, decide_eq_true_eq]; simp, by simp [st_gravity_linear_0, v_lin]⟩
  · intro j t hj hi
    obtain ⟨_, hi1, hi2⟩ := hi
    have hj' : (j : Int) < p0.length := by omega
    have e1 : (p0.getD j 0 :: p0.drop (j + 1)).length = p0.length - j := by simp; omega
    have e2 : (p0.drop (j + 1)).length = p0.length - (j + 1) := by simp
    have e3 : p0.length - (p0.length - j) = j := by omega
    have e4 : p0.length - (p0.length - (j + 1)) = j + 1 := by omega
    rw [e1] at hi1 hi2
    have hw := h.w _ (getD_mem' 0 hj)
    have hx := h.x _ (getD_mem' (0, 0) (show j < p1.length by omega))
    have hd := drop_getD ((0 : Int), (0 : Int)) (show j < p1.length by omega)
    refine ⟨by simp only [sp_gravity_linear_0, List.forall_mem_cons, decide_eq_true_eq]; simp <;> omega, .inl ⟨(t.1 + min (p0.getD j 0 * (p1.getD j (0, 0)).1) (p0.getD j 0 * (p1.getD j (0, 0)).2), t.2 + max (p0.getD j 0 * (p1.getD j (0, 0)).1) (p0.getD j 0 * (p1.getD j (0, 0)).2)), ?_, ?_, ?_⟩⟩
    · simp only [st_gravity_linear_0, hj', decide_true, Int.toNat_natCast, cond_true, wrap_nat (show (j : Int) ≤ 9223372036854775806 by omega)]
      generalize p0.getD j 0 = w at *
      generalize p1.getD j (0, 0) = x at *
      have b1 := v_prod (m := 1000000) hw hx.1 (by decide)
      have b2 := v_prod (m := 1000000) hw hx.2 (by decide)
      rw [wrap_id (n := w * x.1) (by omega) (by omega), wrap_id (n := w * x.2) (by omega) (by omega), wrap_id (by omega) (by omega), wrap_id (by omega) (by omega)]
    · rw [e2]
      generalize p0.getD j 0 = w at *
      generalize p1.getD j (0, 0) = x at *
      have b1 := v_prod (m := 1000000) hw hx.1 (by decide)
      have b2 := v_prod (m := 1000000) hw hx.2 (by decide)
      exact ⟨by omega, by simp only; omega, by simp only; omega⟩
    · rw [e1, e2, e3, e4, hd]
      simp only [v_lin]
      rw [Prod.mk.injEq]
      exact ⟨by omega, by omega⟩
abbrev t_gravity_linear (p0 : List Int) (p1 : List (Int × Int)) : Int × Int := v_lin p0 p1
abbrev qre_gravity_linear (p0 : List Int) (p1 : List (Int × Int)) : List Prop := [v_linok p0 p1]
theorem pp_gravity_linear (p0 : List Int) (p1 : List (Int × Int)) (hq : ∀ p ∈ qre_gravity_linear p0 p1, p) : ∀ p ∈ pre_gravity_linear p0 p1, p := by
  simp only [pre_gravity_linear, List.forall_mem_cons]
  exact ⟨(l_gravity_linear p0 p1 (conj_of hq).1).1, by simp⟩
theorem tt_gravity_linear (p0 : List Int) (p1 : List (Int × Int)) (hq : ∀ p ∈ qre_gravity_linear p0 p1, p) : s_gravity_linear p0 p1 = t_gravity_linear p0 p1 := (l_gravity_linear p0 p1 (conj_of hq).1).2

abbrev con_gravity_linear : Con := ⟨P_gravity_linear, R_gravity_linear, fun x => qre_gravity_linear x.1 x.2, fun x => t_gravity_linear x.1 x.2⟩
theorem ok_gravity_linear : ConOk Tryd.prog 101 con_gravity_linear := ⟨k_gravity_linear, fun x hx => ret_tf (ps := P_gravity_linear) (rs := R_gravity_linear) (x := x) (y := t_gravity_linear x.1 x.2) e_gravity_linear hC_gravity_linear (tf_of (w_gravity_linear_eq x.1 x.2 (fun z => z = t_gravity_linear x.1 x.2)) (d_gravity_linear x.1 x.2 (fun z => z = t_gravity_linear x.1 x.2) (pp_gravity_linear x.1 x.2 hx) (tt_gravity_linear x.1 x.2 hx)))⟩
/- gravity_floor -/
def C_gravity_floor : Cons := []
theorem hC_gravity_floor : ConsOk Tryd.prog C_gravity_floor := ConsOk.nil
def w_gravity_floor (p0 : Int) (p1 : Int) (K : Int → Prop) : Prop :=
 ((p1 ≠ (0 : Int)) ∧
  ((((decide ((IntKind.i64.wrap ((IntKind.i64.wrap (Int.tdiv p0 p1)) * p1)) > p0)) = true) →
  (K (IntKind.i64.wrap ((IntKind.i64.wrap (Int.tdiv p0 p1)) - (1 : Int))))) ∧
  (((decide ((IntKind.i64.wrap ((IntKind.i64.wrap (Int.tdiv p0 p1)) * p1)) > p0)) = false) →
  (K (IntKind.i64.wrap (Int.tdiv p0 p1))))))
set_option maxHeartbeats 4000000 in
theorem w_gravity_floor_eq (p0 : Int) (p1 : Int) (K : Int → Prop) : tfn F_gravity_floor A_gravity_floor C_gravity_floor P_gravity_floor R_gravity_floor (p0, p1) K = w_gravity_floor p0 p1 K := by kernel_rfl
def s_gravity_floor (p0 : Int) (p1 : Int) : Int :=
  (cond (decide ((IntKind.i64.wrap ((IntKind.i64.wrap (Int.tdiv p0 p1)) * p1)) > p0)) (IntKind.i64.wrap ((IntKind.i64.wrap (Int.tdiv p0 p1)) - (1 : Int)))
    (IntKind.i64.wrap (Int.tdiv p0 p1)))
abbrev pre_gravity_floor (p0 : Int) (p1 : Int) : List Prop := [(p1 ≠ (0 : Int))]
set_option maxHeartbeats 4000000 in
theorem d_gravity_floor (p0 : Int) (p1 : Int) (K : Int → Prop) (hp : ∀ p ∈ pre_gravity_floor p0 p1, p) (h : K (s_gravity_floor p0 p1)) : w_gravity_floor p0 p1 K := by
  unfold w_gravity_floor
  unfold s_gravity_floor at h
  obtain ⟨hp0, _⟩ := conj_of hp
  exact ⟨(hp0), (br' h (fun e0 h => h)
    (fun e0 h => h))⟩
theorem tx_floor {n b : Int} (hn : v_fit n) (hb : 0 < b) : s_gravity_floor n b = n / b := by
  have h1 : (n.tdiv b).natAbs ≤ n.natAbs := by
    rw [Int.natAbs_tdiv]; exact Nat.div_le_self _ _
  have h2 := v_tmod_lt (a := n) (b := b) (by omega)
  have h3 := Int.mul_tdiv_add_tmod n b
  have h4 : (b * n.tdiv b).natAbs ≤ n.natAbs := by
    rw [Int.natAbs_mul, Int.natAbs_tdiv]; exact Nat.mul_div_le _ _
  unfold v_fit at hn
  unfold s_gravity_floor
  rw [wrap_id (n := n.tdiv b) (by omega) (by omega), Int.mul_comm (n.tdiv b) b, wrap_id (n := b * n.tdiv b) (by omega) (by omega)]
  have := floor_is hn hb
  rw [wrap_id (n := n.tdiv b) (by omega) (by omega)] at this
  rw [← this]
  congr 1
  rw [decide_eq_decide]; omega
abbrev t_gravity_floor (p0 p1 : Int) : Int := p0 / p1
abbrev qre_gravity_floor (p0 p1 : Int) : List Prop := [v_fit p0, 0 < p1]
theorem pp_gravity_floor (p0 p1 : Int) (hq : ∀ p ∈ qre_gravity_floor p0 p1, p) : ∀ p ∈ pre_gravity_floor p0 p1, p := by
  simp only [pre_gravity_floor, List.forall_mem_cons]
  have := (conj_of hq).2.1
  exact ⟨by omega, by simp⟩
theorem tt_gravity_floor (p0 p1 : Int) (hq : ∀ p ∈ qre_gravity_floor p0 p1, p) : s_gravity_floor p0 p1 = t_gravity_floor p0 p1 := tx_floor (conj_of hq).1 (conj_of hq).2.1

abbrev con_gravity_floor : Con := ⟨P_gravity_floor, R_gravity_floor, fun x => qre_gravity_floor x.1 x.2, fun x => t_gravity_floor x.1 x.2⟩
theorem ok_gravity_floor : ConOk Tryd.prog 117 con_gravity_floor := ⟨k_gravity_floor, fun x hx => ret_tf (ps := P_gravity_floor) (rs := R_gravity_floor) (x := x) (y := t_gravity_floor x.1 x.2) e_gravity_floor hC_gravity_floor (tf_of (w_gravity_floor_eq x.1 x.2 (fun z => z = t_gravity_floor x.1 x.2)) (d_gravity_floor x.1 x.2 (fun z => z = t_gravity_floor x.1 x.2) (pp_gravity_floor x.1 x.2 hx) (tt_gravity_floor x.1 x.2 hx)))⟩
/- gravity_ceil -/
def C_gravity_ceil : Cons := [(117, [], con_gravity_floor)]
theorem hC_gravity_ceil : ConsOk Tryd.prog C_gravity_ceil := ConsOk.cons ok_gravity_floor <| ConsOk.nil
def w_gravity_ceil (p0 : Int) (p1 : Int) (K : Int → Prop) : Prop :=
 ((v_fit (IntKind.i64.wrap ((0 : Int) - p0))) ∧
  (((0 : Int) < p1) ∧
  (K (IntKind.i64.wrap ((0 : Int) - ((IntKind.i64.wrap ((0 : Int) - p0)) / p1))))))
set_option maxHeartbeats 4000000 in
theorem w_gravity_ceil_eq (p0 : Int) (p1 : Int) (K : Int → Prop) : tfn F_gravity_ceil A_gravity_ceil C_gravity_ceil P_gravity_ceil R_gravity_ceil (p0, p1) K = w_gravity_ceil p0 p1 K := by kernel_rfl
def s_gravity_ceil (p0 : Int) (p1 : Int) : Int :=
  (IntKind.i64.wrap ((0 : Int) - ((IntKind.i64.wrap ((0 : Int) - p0)) / p1)))
abbrev pre_gravity_ceil (p0 : Int) (p1 : Int) : List Prop := [(v_fit (IntKind.i64.wrap ((0 : Int) - p0))),
    ((0 : Int) < p1)]
set_option maxHeartbeats 4000000 in
theorem d_gravity_ceil (p0 : Int) (p1 : Int) (K : Int → Prop) (hp : ∀ p ∈ pre_gravity_ceil p0 p1, p) (h : K (s_gravity_ceil p0 p1)) : w_gravity_ceil p0 p1 K := by
  unfold w_gravity_ceil
  unfold s_gravity_ceil at h
  obtain ⟨hp0, hp1, _⟩ := conj_of hp
  exact ⟨(hp0), (hp1), h⟩
/-- A quotient rounded up. -/
def v_ceil (a b : Int) : Int := -((-a) / b)
theorem tx_gravity_ceil {n b : Int} (hn : v_fit n) (hb : 0 < b) : s_gravity_ceil n b = v_ceil n b := by
  unfold v_fit at hn
  unfold s_gravity_ceil v_ceil
  rw [wrap_id (n := 0 - n) (by omega) (by omega), show (0 : Int) - n = -n by omega]
  have h : ((-n) / b).natAbs ≤ (-n).natAbs := Int.natAbs_ediv_le_natAbs _ _
  have h2 : -n / b ≤ 9223372036854775807 := by omega
  have h3 : -9223372036854775808 ≤ -n / b := by omega
  rw [wrap_id (n := 0 - -n / b) (by omega) (by omega)]; omega
abbrev t_gravity_ceil (p0 p1 : Int) : Int := v_ceil p0 p1
abbrev qre_gravity_ceil (p0 p1 : Int) : List Prop := [v_fit p0, 0 < p1]
theorem pp_gravity_ceil (p0 p1 : Int) (hq : ∀ p ∈ qre_gravity_ceil p0 p1, p) : ∀ p ∈ pre_gravity_ceil p0 p1, p := by
  obtain ⟨h1, h2, _⟩ := conj_of hq
  unfold v_fit at h1
  simp only [pre_gravity_ceil, List.forall_mem_cons, wrap_id (n := 0 - p0) (by omega) (by omega)]
  exact ⟨by unfold v_fit; omega, h2, by simp⟩
theorem tt_gravity_ceil (p0 p1 : Int) (hq : ∀ p ∈ qre_gravity_ceil p0 p1, p) : s_gravity_ceil p0 p1 = t_gravity_ceil p0 p1 := tx_gravity_ceil (conj_of hq).1 (conj_of hq).2.1

abbrev con_gravity_ceil : Con := ⟨P_gravity_ceil, R_gravity_ceil, fun x => qre_gravity_ceil x.1 x.2, fun x => t_gravity_ceil x.1 x.2⟩
theorem ok_gravity_ceil : ConOk Tryd.prog 118 con_gravity_ceil := ⟨k_gravity_ceil, fun x hx => ret_tf (ps := P_gravity_ceil) (rs := R_gravity_ceil) (x := x) (y := t_gravity_ceil x.1 x.2) e_gravity_ceil hC_gravity_ceil (tf_of (w_gravity_ceil_eq x.1 x.2 (fun z => z = t_gravity_ceil x.1 x.2)) (d_gravity_ceil x.1 x.2 (fun z => z = t_gravity_ceil x.1 x.2) (pp_gravity_ceil x.1 x.2 hx) (tt_gravity_ceil x.1 x.2 hx)))⟩
/- gravity_Filtered -/
def C_gravity_Filtered : Cons := [(75, [], con_gravity_CheckFilter), (99, [], con_gravity_rangesErr), (88, [], con_gravity_first), (90, [], con_gravity_both_p), (116, [], con_gravity_sum), (100, [], con_gravity_windows), (130, itMark, con_gravity_windows_1), (101, [], con_gravity_linear), (117, [], con_gravity_floor), (118, [], con_gravity_ceil)]
theorem hC_gravity_Filtered : ConsOk Tryd.prog C_gravity_Filtered := ConsOk.cons ok_gravity_CheckFilter <| ConsOk.cons ok_gravity_rangesErr <| ConsOk.cons ok_gravity_first <| ConsOk.cons ok_gravity_both_p <| ConsOk.cons ok_gravity_sum <| ConsOk.cons ok_gravity_windows <| ConsOk.consI ok_gravity_windows_1 <| ConsOk.cons ok_gravity_linear <| ConsOk.cons ok_gravity_floor <| ConsOk.cons ok_gravity_ceil <| ConsOk.nil
def w_gravity_Filtered (p0 : (List Int)) (p1 : (List (Int × Int))) (K : ((List (Int × Int)) × Int) → Prop) : Prop :=
 ((lenOk p0) ∧
  ((lenOk ((v_filerr p0) :: ((s_gravity_rangesErr p1) :: ([] : List Int)))) ∧
  (((((v_first ((v_filerr p0) :: ((s_gravity_rangesErr p1) :: ([] : List Int)))) != (0 : Int)) = true) →
  (K (([] : List (Int × Int)), (v_first ((v_filerr p0) :: ((s_gravity_rangesErr p1) :: ([] : List Int))))))) ∧
  ((((v_first ((v_filerr p0) :: ((s_gravity_rangesErr p1) :: ([] : List Int)))) != (0 : Int)) = false) →
  (((1 ≤ (List.length p0)) ∧
    ((List.length p0) ≤ 1000000)) ∧
    ((v_fw p0) ∧
    (((1 : Int) ≤ (((List.length (v_both p0)) : Nat) : Int)) ∧
    (((((List.length (v_both p0)) : Nat) : Int) ≤ (1000000 : Int)) ∧
    (((List.length p1) ≤ 1000000) ∧
    (RngP (fun (y0 : (List (Int × Int))) (z1 : (Int × (List (Int × Int)))) k2 =>
      ((v_linok (v_both p0) z1.2) ∧
      ((v_fit (v_lin (v_both p0) z1.2).1) ∧
      (((0 : Int) < (v_fsum p0)) ∧
      ((v_fit (v_lin (v_both p0) z1.2).2) ∧
      (((0 : Int) < (v_fsum p0)) ∧
      (((((List.length y0) + (List.length ((((v_lin (v_both p0) z1.2).1 / (v_fsum p0)), (v_ceil (v_lin (v_both p0) z1.2).2 (v_fsum p0))) :: ([] : List (Int × Int))))) * 16) ≤ 140737488355328) ∧
      (k2 (y0 ++ ((((v_lin (v_both p0) z1.2).1 / (v_fsum p0)), (v_ceil (v_lin (v_both p0) z1.2).2 (v_fsum p0))) :: ([] : List (Int × Int))))))))))))
      (fun (s3 : (List (Int × Int))) => (K (s3, (0 : Int)))) (v_windows p1 (((List.length (v_both p0)) : Nat) : Int)) ([] : List (Int × Int))))))))))))
set_option maxHeartbeats 4000000 in
theorem w_gravity_Filtered_eq (p0 : (List Int)) (p1 : (List (Int × Int))) (K : ((List (Int × Int)) × Int) → Prop) : tfn F_gravity_Filtered A_gravity_Filtered C_gravity_Filtered P_gravity_Filtered R_gravity_Filtered (p0, p1) K = w_gravity_Filtered p0 p1 K := by kernel_rfl
def st_gravity_Filtered_0 (p0 : (List Int)) (p1 : (List (Int × Int))) (y1 : (List (Int × Int))) (z1 : (Int × (List (Int × Int)))) : (List (Int × Int)) ⊕ ((List (Int × Int)) × Int) :=
  (Sum.inl (y1 ++ ((((v_lin (v_both p0) z1.2).1 / (v_fsum p0)), (v_ceil (v_lin (v_both p0) z1.2).2 (v_fsum p0))) :: ([] : List (Int × Int)))))
abbrev sp_gravity_Filtered_0 (p0 : (List Int)) (p1 : (List (Int × Int))) (y1 : (List (Int × Int))) (z1 : (Int × (List (Int × Int)))) : List Prop := [(v_linok (v_both p0) z1.2),
    (v_fit (v_lin (v_both p0) z1.2).1),
    ((0 : Int) < (v_fsum p0)),
    (v_fit (v_lin (v_both p0) z1.2).2),
    ((((List.length y1) + (List.length ((((v_lin (v_both p0) z1.2).1 / (v_fsum p0)), (v_ceil (v_lin (v_both p0) z1.2).2 (v_fsum p0))) :: ([] : List (Int × Int))))) * 16) ≤ 140737488355328)]
def sf_gravity_Filtered_0 (p0 : (List Int)) (p1 : (List (Int × Int))) (s1 : (List (Int × Int))) : ((List (Int × Int)) × Int) :=
  (s1, (0 : Int))
abbrev sq_gravity_Filtered_0 (p0 : (List Int)) (p1 : (List (Int × Int))) (s1 : (List (Int × Int))) : List Prop := []
def s_gravity_Filtered (p0 : (List Int)) (p1 : (List (Int × Int))) : ((List (Int × Int)) × Int) :=
  (cond ((v_first ((v_filerr p0) :: ((s_gravity_rangesErr p1) :: ([] : List Int)))) != (0 : Int)) (([] : List (Int × Int)), (v_first ((v_filerr p0) :: ((s_gravity_rangesErr p1) :: ([] : List Int)))))
    (rngV (st_gravity_Filtered_0 p0 p1) (sf_gravity_Filtered_0 p0 p1) (v_windows p1 (((List.length (v_both p0)) : Nat) : Int)) ([] : List (Int × Int))))
abbrev pre_gravity_Filtered (p0 : (List Int)) (p1 : (List (Int × Int))) : List Prop := [(lenOk p0),
    ((((v_first ((v_filerr p0) :: ((s_gravity_rangesErr p1) :: ([] : List Int)))) != (0 : Int)) = false) → ((1 ≤ (List.length p0)) ∧ ((List.length p0) ≤ 1000000))),
    ((((v_first ((v_filerr p0) :: ((s_gravity_rangesErr p1) :: ([] : List Int)))) != (0 : Int)) = false) → (v_fw p0)),
    ((((v_first ((v_filerr p0) :: ((s_gravity_rangesErr p1) :: ([] : List Int)))) != (0 : Int)) = false) → ((1 : Int) ≤ (((List.length (v_both p0)) : Nat) : Int))),
    ((((v_first ((v_filerr p0) :: ((s_gravity_rangesErr p1) :: ([] : List Int)))) != (0 : Int)) = false) → ((((List.length (v_both p0)) : Nat) : Int) ≤ (1000000 : Int))),
    ((((v_first ((v_filerr p0) :: ((s_gravity_rangesErr p1) :: ([] : List Int)))) != (0 : Int)) = false) → ((List.length p1) ≤ 1000000)),
    ((((v_first ((v_filerr p0) :: ((s_gravity_rangesErr p1) :: ([] : List Int)))) != (0 : Int)) = false) → (OkR (st_gravity_Filtered_0 p0 p1) (sp_gravity_Filtered_0 p0 p1) (sq_gravity_Filtered_0 p0 p1) (v_windows p1 (((List.length (v_both p0)) : Nat) : Int)) ([] : List (Int × Int))))]
set_option maxHeartbeats 4000000 in
theorem d_gravity_Filtered (p0 : (List Int)) (p1 : (List (Int × Int))) (K : ((List (Int × Int)) × Int) → Prop) (hp : ∀ p ∈ pre_gravity_Filtered p0 p1, p) (h : K (s_gravity_Filtered p0 p1)) : w_gravity_Filtered p0 p1 K := by
  unfold w_gravity_Filtered
  unfold s_gravity_Filtered at h
  obtain ⟨hp0, hp1, hp2, hp3, hp4, hp5, hp6, _⟩ := conj_of hp
  exact ⟨(hp0), (lenOk_of 2 rfl (by decide)), (br' h (fun e0 h => h)
    (fun e0 h => ⟨(hp1 e0), (hp2 e0), (hp3 e0), (hp4 e0), (hp5 e0), (rng_gen (hp6 e0) h (fun y1 z1 k1 hp h => by
  unfold st_gravity_Filtered_0 at h; obtain ⟨hp0, hp1, hp2, hp3, hp4, _⟩ := conj_of hp
  exact ⟨(hp0), (hp1), (hp2), (hp3), (hp2), (hp4), h⟩) (fun s1 hp h => by
  unfold sf_gravity_Filtered_0 at h
  exact h))⟩))⟩
theorem v_lin_in {m : Int} (hm : 0 ≤ m) : ∀ (ws : List Int) (xs : List (Int × Int)), (∀ w ∈ ws, -m ≤ w ∧ w ≤ m) → (∀ x ∈ xs, (-1000000 ≤ x.1 ∧ x.1 ≤ 1000000) ∧ (-1000000 ≤ x.2 ∧ x.2 ≤ 1000000)) → (-(ws.length * (m * 1000000)) ≤ (v_lin ws xs).1 ∧ (v_lin ws xs).1 ≤ ws.length * (m * 1000000)) ∧ (-(ws.length * (m * 1000000)) ≤ (v_lin ws xs).2 ∧ (v_lin ws xs).2 ≤ ws.length * (m * 1000000))
  | [], xs, _, _ => by simp [v_lin]
  | w :: ws, [], _, _ => by
    have h0 : 0 ≤ m * 1000000 := by omega
    have : 0 ≤ ((w :: ws).length : Int) * (m * 1000000) := Int.mul_nonneg (by omega) h0
    simp only [v_lin]; omega
  | w :: ws, x :: xs, hw, hx => by
    have ih := v_lin_in hm ws xs (fun y hy => hw y (by simp [hy])) (fun y hy => hx y (by simp [hy]))
    have h1 := v_prod (hw w (by simp)) (hx x (by simp)).1 hm
    have h2 := v_prod (hw w (by simp)) (hx x (by simp)).2 hm
    have e : ((w :: ws).length : Int) * (m * 1000000) = ws.length * (m * 1000000) + m * 1000000 := by
      rw [List.length_cons, show ((ws.length + 1 : Nat) : Int) = (ws.length : Int) + 1 by omega, Int.add_mul, Int.one_mul]
    rw [e]
    simp only [v_lin]
    omega
theorem v_both_all {f : List Int} {m : Int} (h : ∀ x ∈ f, -m ≤ x ∧ x ≤ m) : ∀ x ∈ v_both f, -m ≤ x ∧ x ≤ m := by
  intro x hx
  unfold v_both at hx
  rcases List.mem_append.1 hx with hx | hx
  · exact h x (List.mem_reverse.1 hx)
  · exact h x (List.mem_of_mem_drop hx)
theorem v_win_in {l : List (Int × Int)} {c : Nat} {z : Int × List (Int × Int)} (hz : z ∈ v_windows l c) (h1 : 1 ≤ c) : z.2.length = c ∧ (∀ x ∈ z.2, x ∈ l) ∧ 0 ≤ z.1 ∧ z.1 + c ≤ l.length := by
  unfold v_windows at hz
  obtain ⟨k, hk, rfl⟩ := List.mem_map.1 hz
  rw [List.mem_range] at hk
  refine ⟨by simp only [List.length_take, List.length_drop]; omega, fun x hx => List.mem_of_mem_drop (List.mem_of_mem_take hx), by simp only; omega, by simp only; omega⟩
/-- A filtered list. -/
def v_fil (p0 : List Int) (p1 : List (Int × Int)) : List (Int × Int) := (v_windows p1 ((v_both p0).length : Nat)).map fun z => ((v_lin (v_both p0) z.2).1 / v_fsum p0, v_ceil (v_lin (v_both p0) z.2).2 (v_fsum p0))
theorem l_gravity_Filtered (p0 : List Int) (p1 : List (Int × Int)) (h : v_fok p0) (hl : v_hok p1) : OkR (st_gravity_Filtered_0 p0 p1) (sp_gravity_Filtered_0 p0 p1) (sq_gravity_Filtered_0 p0 p1) (v_windows p1 ((v_both p0).length : Nat)) [] ∧ rngV (st_gravity_Filtered_0 p0 p1) (sf_gravity_Filtered_0 p0 p1) (v_windows p1 ((v_both p0).length : Nat)) [] = (v_fil p0 p1, 0) := by
  have hlen := hl.len
  have h1 := h.one
  have h9 := h.nine
  have hb := v_both_len h1
  have hall := v_both_all h.all
  have key : ∀ z, z ∈ v_windows p1 ((v_both p0).length : Nat) → v_linok (v_both p0) z.2 ∧ v_fit (v_lin (v_both p0) z.2).1 ∧ v_fit (v_lin (v_both p0) z.2).2 := by
    intro z hz
    obtain ⟨g1, g2, _⟩ := v_win_in hz (by omega)
    have gx : ∀ x ∈ z.2, (-1000000 ≤ x.1 ∧ x.1 ≤ 1000000) ∧ (-1000000 ≤ x.2 ∧ x.2 ≤ 1000000) := fun x hx => ⟨(hl.all x (g2 x hx)).1, (hl.all x (g2 x hx)).2.1⟩
    have hi := v_lin_in (m := 100000) (by decide) (v_both p0) z.2 hall gx
    refine ⟨⟨by omega, by omega, fun x hx => by have := hall x hx; omega, gx⟩, ?_, ?_⟩ <;> unfold v_fit <;> omega
  have := rng_map (st := st_gravity_Filtered_0 p0 p1) (sp := sp_gravity_Filtered_0 p0 p1) (fin := sf_gravity_Filtered_0 p0 p1) (fp := sq_gravity_Filtered_0 p0 p1) (fun z => ((v_lin (v_both p0) z.2).1 / v_fsum p0, v_ceil (v_lin (v_both p0) z.2).2 (v_fsum p0))) (v_windows p1 ((v_both p0).length : Nat)) (by unfold v_windows; simp; omega) (fun y z _ => rfl) ?_ (by simp)
  · exact this
  · intro y z hz hy
    obtain ⟨g1, g2, g3⟩ := key z hz
    simp only [sp_gravity_Filtered_0, List.forall_mem_cons]
    have hp := h.pos
    exact ⟨g1, g2, hp, g3, by simp; omega, by simp⟩
/-- The error of a filter and a list. -/
def v_flerr (p0 : List Int) (p1 : List (Int × Int)) : Int := v_first [v_filerr p0, s_gravity_rangesErr p1]
theorem tx_flerr {p0 : List Int} {p1 : List (Int × Int)} (h : v_flerr p0 p1 = 0) : v_fok p0 ∧ v_hok p1 := by
  obtain ⟨h1, h⟩ := v_first0 h
  obtain ⟨h2, _⟩ := v_first0 h
  exact ⟨tx_fok h1, tx_heights (show (v_heights p1).2 = 0 from h2)⟩
abbrev t_gravity_Filtered (p0 : List Int) (p1 : List (Int × Int)) : List (Int × Int) × Int := cond (v_flerr p0 p1 != 0) ([], v_flerr p0 p1) (v_fil p0 p1, 0)
abbrev qre_gravity_Filtered (p0 : List Int) (_ : List (Int × Int)) : List Prop := [lenOk p0]
theorem pp_gravity_Filtered (p0 : List Int) (p1 : List (Int × Int)) (hq : ∀ p ∈ qre_gravity_Filtered p0 p1, p) : ∀ p ∈ pre_gravity_Filtered p0 p1, p := by
  simp only [pre_gravity_Filtered, List.forall_mem_cons]
  have key : (v_flerr p0 p1 != 0) = false → v_fok p0 ∧ v_hok p1 := fun h => tx_flerr (bne0' h)
  have k1 : (v_flerr p0 p1 != 0) = false → 1 ≤ p0.length ∧ p0.length ≤ 9 ∧ (v_both p0).length = 2 * p0.length - 1 := fun h => ⟨(key h).1.one, (key h).1.nine, v_both_len (key h).1.one⟩
  exact ⟨(conj_of hq).1, fun h => by have := k1 h; omega, fun h => (key h).1.tov_fw, fun h => by have := k1 h; omega, fun h => by have := k1 h; omega, fun h => by have := (key h).2.len; omega, fun h => (l_gravity_Filtered p0 p1 (key h).1 (key h).2).1, by simp⟩
theorem tt_gravity_Filtered (p0 : List Int) (p1 : List (Int × Int)) (_ : ∀ p ∈ qre_gravity_Filtered p0 p1, p) : s_gravity_Filtered p0 p1 = t_gravity_Filtered p0 p1 := by
  show cond (v_flerr p0 p1 != 0) _ _ = _
  unfold t_gravity_Filtered
  cases h : (v_flerr p0 p1 != 0)
  · obtain ⟨k1, k2⟩ := tx_flerr (bne0' h)
    exact (l_gravity_Filtered p0 p1 k1 k2).2
  · rfl

abbrev con_gravity_Filtered : Con := ⟨P_gravity_Filtered, R_gravity_Filtered, fun x => qre_gravity_Filtered x.1 x.2, fun x => t_gravity_Filtered x.1 x.2⟩
theorem ok_gravity_Filtered : ConOk Tryd.prog 64 con_gravity_Filtered := ⟨k_gravity_Filtered, fun x hx => ret_tf (ps := P_gravity_Filtered) (rs := R_gravity_Filtered) (x := x) (y := t_gravity_Filtered x.1 x.2) e_gravity_Filtered hC_gravity_Filtered (tf_of (w_gravity_Filtered_eq x.1 x.2 (fun z => z = t_gravity_Filtered x.1 x.2)) (d_gravity_Filtered x.1 x.2 (fun z => z = t_gravity_Filtered x.1 x.2) (pp_gravity_Filtered x.1 x.2 hx) (tt_gravity_Filtered x.1 x.2 hx)))⟩
/- gravity_Composed_1 -/
def C_gravity_Composed_1 : Cons := [(93, [], con_gravity_isSized)]
theorem hC_gravity_Composed_1 : ConsOk Tryd.prog C_gravity_Composed_1 := ConsOk.cons ok_gravity_isSized <| ConsOk.nil
def w_gravity_Composed_1 (p0 : Int) (K : Bool → Prop) : Prop :=
 (K (!(s_gravity_isSized p0 (100000 : Int))))
set_option maxHeartbeats 4000000 in
theorem w_gravity_Composed_1_eq (p0 : Int) (K : Bool → Prop) : tfn F_gravity_Composed_1 A_gravity_Composed_1 C_gravity_Composed_1 P_gravity_Composed_1 R_gravity_Composed_1 p0 K = w_gravity_Composed_1 p0 K := by kernel_rfl
def s_gravity_Composed_1 (p0 : Int) : Bool :=
  (!(s_gravity_isSized p0 (100000 : Int)))
abbrev pre_gravity_Composed_1 (p0 : Int) : List Prop := []
set_option maxHeartbeats 4000000 in
theorem d_gravity_Composed_1 (p0 : Int) (K : Bool → Prop) (hp : ∀ p ∈ pre_gravity_Composed_1 p0, p) (h : K (s_gravity_Composed_1 p0)) : w_gravity_Composed_1 p0 K := by
  unfold w_gravity_Composed_1
  unfold s_gravity_Composed_1 at h
  exact h
abbrev con_gravity_Composed_1 : Con := ⟨P_gravity_Composed_1, R_gravity_Composed_1, fun x => pre_gravity_Composed_1 x, fun x => s_gravity_Composed_1 x⟩
theorem ok_gravity_Composed_1 : ConOk Tryd.prog 92 con_gravity_Composed_1 := ⟨k_gravity_Composed_1, fun x hx => ret_tf (ps := P_gravity_Composed_1) (rs := R_gravity_Composed_1) (x := x) (y := s_gravity_Composed_1 x) e_gravity_Composed_1 hC_gravity_Composed_1 (tf_of (w_gravity_Composed_1_eq x (fun z => z = s_gravity_Composed_1 x)) (d_gravity_Composed_1 x (fun z => z = s_gravity_Composed_1 x) hx rfl))⟩
/- slices_IndexFuncint_int__gravity_Composed_1 -/
def C_slices_IndexFuncint_int__gravity_Composed_1 : Cons := [(92, [], con_gravity_Composed_1)]
theorem hC_slices_IndexFuncint_int__gravity_Composed_1 : ConsOk Tryd.prog C_slices_IndexFuncint_int__gravity_Composed_1 := ConsOk.cons ok_gravity_Composed_1 <| ConsOk.nil
def w_slices_IndexFuncint_int__gravity_Composed_1 (p0 : (List Int)) (p1 : PUnit) (K : Int → Prop) : Prop :=
 (∃ n0, (loopP (fun (y1 : Int) k2 =>
    ((((decide (y1 < (((List.length p0) : Nat) : Int))) = true) →
    (((0 : Int) ≤ y1) ∧
      ((y1 < (((List.length p0) : Nat) : Int)) ∧
      ((((s_gravity_Composed_1 (List.getD p0 (Int.toNat y1) (0 : Int))) = true) →
      (K y1)) ∧
      (((s_gravity_Composed_1 (List.getD p0 (Int.toNat y1) (0 : Int))) = false) →
      (k2 (IntKind.i64.wrap (y1 + (1 : Int))))))))) ∧
    (((decide (y1 < (((List.length p0) : Nat) : Int))) = false) →
    (K (-1 : Int))))) n0 (0 : Int)))
set_option maxHeartbeats 4000000 in
theorem w_slices_IndexFuncint_int__gravity_Composed_1_eq (p0 : (List Int)) (p1 : PUnit) (K : Int → Prop) : tfn F_slices_IndexFuncint_int__gravity_Composed_1 A_slices_IndexFuncint_int__gravity_Composed_1 C_slices_IndexFuncint_int__gravity_Composed_1 P_slices_IndexFuncint_int__gravity_Composed_1 R_slices_IndexFuncint_int__gravity_Composed_1 (p0, p1) K = w_slices_IndexFuncint_int__gravity_Composed_1 p0 p1 K := by kernel_rfl
def st_slices_IndexFuncint_int__gravity_Composed_1_0 (p0 : (List Int)) (p1 : PUnit) (y0 : Int) : Int ⊕ Int :=
  (cond (decide (y0 < (((List.length p0) : Nat) : Int))) (cond (s_gravity_Composed_1 (List.getD p0 (Int.toNat y0) (0 : Int))) (Sum.inr y0)
    (Sum.inl (IntKind.i64.wrap (y0 + (1 : Int)))))
    (Sum.inr (-1 : Int)))
abbrev sp_slices_IndexFuncint_int__gravity_Composed_1_0 (p0 : (List Int)) (p1 : PUnit) (y0 : Int) : List Prop := [(((decide (y0 < (((List.length p0) : Nat) : Int))) = true) → ((0 : Int) ≤ y0)),
    (((decide (y0 < (((List.length p0) : Nat) : Int))) = true) → (y0 < (((List.length p0) : Nat) : Int)))]
def s_slices_IndexFuncint_int__gravity_Composed_1 (p0 : (List Int)) (p1 : PUnit) : Int :=
  (lpv (0 : Int) (st_slices_IndexFuncint_int__gravity_Composed_1_0 p0 p1) (0 : Int))
abbrev pre_slices_IndexFuncint_int__gravity_Composed_1 (p0 : (List Int)) (p1 : PUnit) : List Prop := [(OkL (st_slices_IndexFuncint_int__gravity_Composed_1_0 p0 p1) (sp_slices_IndexFuncint_int__gravity_Composed_1_0 p0 p1) (0 : Int))]
set_option maxHeartbeats 4000000 in
theorem d_slices_IndexFuncint_int__gravity_Composed_1 (p0 : (List Int)) (p1 : PUnit) (K : Int → Prop) (hp : ∀ p ∈ pre_slices_IndexFuncint_int__gravity_Composed_1 p0 p1, p) (h : K (s_slices_IndexFuncint_int__gravity_Composed_1 p0 p1)) : w_slices_IndexFuncint_int__gravity_Composed_1 p0 p1 K := by
  unfold w_slices_IndexFuncint_int__gravity_Composed_1
  unfold s_slices_IndexFuncint_int__gravity_Composed_1 at h
  obtain ⟨hp0, _⟩ := conj_of hp
  exact (loop_gen (hp0) h (fun y0 k0 hp h => by
  unfold st_slices_IndexFuncint_int__gravity_Composed_1_0 at h; obtain ⟨hp0, hp1, _⟩ := conj_of hp
  exact (br' h (fun e1 h => ⟨(hp0 e1), (hp1 e1), (br' h (fun e2 h => h)
    (fun e2 h => h))⟩)
    (fun e1 h => h))))
theorem l_slices_IndexFuncint_int__gravity_Composed_1_0 (p0 : List Int) (p1 : PUnit) (hl : lenOk p0) : OkL (st_slices_IndexFuncint_int__gravity_Composed_1_0 p0 p1) (sp_slices_IndexFuncint_int__gravity_Composed_1_0 p0 p1) 0 ∧ lpv (0 : Int) (st_slices_IndexFuncint_int__gravity_Composed_1_0 p0 p1) 0 = v_scan (fun i x => cond (s_gravity_Composed_1 x) (some i) none) (-1 : Int) 0 p0 := by
  refine scan_is p0 0 (fun i x => cond (s_gravity_Composed_1 x) (some i) none) (-1 : Int) hl ?_ ?_
  · refine ⟨by simp only [sp_slices_IndexFuncint_int__gravity_Composed_1_0, List.forall_mem_cons, decide_eq_true_eq]; simp, by simp [st_slices_IndexFuncint_int__gravity_Composed_1_0]⟩
  · intro j hj
    have hj' : (j : Int) < p0.length := by omega
    refine ⟨by simp only [sp_slices_IndexFuncint_int__gravity_Composed_1_0, List.forall_mem_cons, decide_eq_true_eq, Int.toNat_natCast]; simp <;> omega, ?_⟩
    simp only [st_slices_IndexFuncint_int__gravity_Composed_1_0, hj', decide_true, Int.toNat_natCast, cond_true, wrap_nat (show (j : Int) ≤ 9223372036854775806 by unfold lenOk at hl; omega)]
    generalize p0.getD j 0 = x
    cases s_gravity_Composed_1 x <;> rfl
def v_idx_slices_IndexFuncint_int__gravity_Composed_1 (p0 : List Int) : Int := v_scan (fun i x => cond (s_gravity_Composed_1 x) (some i) none) (-1) 0 p0
abbrev t_slices_IndexFuncint_int__gravity_Composed_1 (p0 : List Int) (p1 : PUnit) : Int := v_idx_slices_IndexFuncint_int__gravity_Composed_1 p0
abbrev qre_slices_IndexFuncint_int__gravity_Composed_1 (p0 : List Int) (p1 : PUnit) : List Prop := [lenOk p0]
theorem pp_slices_IndexFuncint_int__gravity_Composed_1 (p0 : List Int) (p1 : PUnit) (hq : ∀ p ∈ qre_slices_IndexFuncint_int__gravity_Composed_1 p0 p1, p) : ∀ p ∈ pre_slices_IndexFuncint_int__gravity_Composed_1 p0 p1, p := by
  simp only [pre_slices_IndexFuncint_int__gravity_Composed_1, List.forall_mem_cons]
  exact ⟨(l_slices_IndexFuncint_int__gravity_Composed_1_0 p0 p1 (conj_of hq).1).1, by simp⟩
theorem tt_slices_IndexFuncint_int__gravity_Composed_1 (p0 : List Int) (p1 : PUnit) (hq : ∀ p ∈ qre_slices_IndexFuncint_int__gravity_Composed_1 p0 p1, p) : s_slices_IndexFuncint_int__gravity_Composed_1 p0 p1 = t_slices_IndexFuncint_int__gravity_Composed_1 p0 p1 := by
  exact (l_slices_IndexFuncint_int__gravity_Composed_1_0 p0 p1 (conj_of hq).1).2

abbrev con_slices_IndexFuncint_int__gravity_Composed_1 : Con := ⟨P_slices_IndexFuncint_int__gravity_Composed_1, R_slices_IndexFuncint_int__gravity_Composed_1, fun x => qre_slices_IndexFuncint_int__gravity_Composed_1 x.1 x.2, fun x => t_slices_IndexFuncint_int__gravity_Composed_1 x.1 x.2⟩
theorem ok_slices_IndexFuncint_int__gravity_Composed_1 : ConOk Tryd.prog 107 con_slices_IndexFuncint_int__gravity_Composed_1 := ⟨k_slices_IndexFuncint_int__gravity_Composed_1, fun x hx => ret_tf (ps := P_slices_IndexFuncint_int__gravity_Composed_1) (rs := R_slices_IndexFuncint_int__gravity_Composed_1) (x := x) (y := t_slices_IndexFuncint_int__gravity_Composed_1 x.1 x.2) e_slices_IndexFuncint_int__gravity_Composed_1 hC_slices_IndexFuncint_int__gravity_Composed_1 (tf_of (w_slices_IndexFuncint_int__gravity_Composed_1_eq x.1 x.2 (fun z => z = t_slices_IndexFuncint_int__gravity_Composed_1 x.1 x.2)) (d_slices_IndexFuncint_int__gravity_Composed_1 x.1 x.2 (fun z => z = t_slices_IndexFuncint_int__gravity_Composed_1 x.1 x.2) (pp_slices_IndexFuncint_int__gravity_Composed_1 x.1 x.2 hx) (tt_slices_IndexFuncint_int__gravity_Composed_1 x.1 x.2 hx)))⟩
/- slices_ContainsFuncint_int__gravity_Composed_1 -/
def C_slices_ContainsFuncint_int__gravity_Composed_1 : Cons := [(107, [92], con_slices_IndexFuncint_int__gravity_Composed_1)]
theorem hC_slices_ContainsFuncint_int__gravity_Composed_1 : ConsOk Tryd.prog C_slices_ContainsFuncint_int__gravity_Composed_1 := ConsOk.cons ok_slices_IndexFuncint_int__gravity_Composed_1 <| ConsOk.nil
def w_slices_ContainsFuncint_int__gravity_Composed_1 (p0 : (List Int)) (p1 : PUnit) (K : Bool → Prop) : Prop :=
 ((lenOk p0) ∧
  (K (decide ((v_idx_slices_IndexFuncint_int__gravity_Composed_1 p0) ≥ (0 : Int)))))
set_option maxHeartbeats 4000000 in
theorem w_slices_ContainsFuncint_int__gravity_Composed_1_eq (p0 : (List Int)) (p1 : PUnit) (K : Bool → Prop) : tfn F_slices_ContainsFuncint_int__gravity_Composed_1 A_slices_ContainsFuncint_int__gravity_Composed_1 C_slices_ContainsFuncint_int__gravity_Composed_1 P_slices_ContainsFuncint_int__gravity_Composed_1 R_slices_ContainsFuncint_int__gravity_Composed_1 (p0, p1) K = w_slices_ContainsFuncint_int__gravity_Composed_1 p0 p1 K := by kernel_rfl
def s_slices_ContainsFuncint_int__gravity_Composed_1 (p0 : (List Int)) (p1 : PUnit) : Bool :=
  (decide ((v_idx_slices_IndexFuncint_int__gravity_Composed_1 p0) ≥ (0 : Int)))
abbrev pre_slices_ContainsFuncint_int__gravity_Composed_1 (p0 : (List Int)) (p1 : PUnit) : List Prop := [(lenOk p0)]
set_option maxHeartbeats 4000000 in
theorem d_slices_ContainsFuncint_int__gravity_Composed_1 (p0 : (List Int)) (p1 : PUnit) (K : Bool → Prop) (hp : ∀ p ∈ pre_slices_ContainsFuncint_int__gravity_Composed_1 p0 p1, p) (h : K (s_slices_ContainsFuncint_int__gravity_Composed_1 p0 p1)) : w_slices_ContainsFuncint_int__gravity_Composed_1 p0 p1 K := by
  unfold w_slices_ContainsFuncint_int__gravity_Composed_1
  unfold s_slices_ContainsFuncint_int__gravity_Composed_1 at h
  obtain ⟨hp0, _⟩ := conj_of hp
  exact ⟨(hp0), h⟩
def v_any_slices_ContainsFuncint_int__gravity_Composed_1 (p0 : List Int) : Bool := p0.any s_gravity_Composed_1
abbrev t_slices_ContainsFuncint_int__gravity_Composed_1 (p0 : List Int) (p1 : PUnit) : Bool := v_any_slices_ContainsFuncint_int__gravity_Composed_1 p0
abbrev qre_slices_ContainsFuncint_int__gravity_Composed_1 (p0 : List Int) (p1 : PUnit) : List Prop := [lenOk p0]
theorem pp_slices_ContainsFuncint_int__gravity_Composed_1 (p0 : List Int) (p1 : PUnit) (hq : ∀ p ∈ qre_slices_ContainsFuncint_int__gravity_Composed_1 p0 p1, p) : ∀ p ∈ pre_slices_ContainsFuncint_int__gravity_Composed_1 p0 p1, p := by
  simpa only [pre_slices_ContainsFuncint_int__gravity_Composed_1] using hq
theorem tt_slices_ContainsFuncint_int__gravity_Composed_1 (p0 : List Int) (p1 : PUnit) (hq : ∀ p ∈ qre_slices_ContainsFuncint_int__gravity_Composed_1 p0 p1, p) : s_slices_ContainsFuncint_int__gravity_Composed_1 p0 p1 = t_slices_ContainsFuncint_int__gravity_Composed_1 p0 p1 := by
  unfold s_slices_ContainsFuncint_int__gravity_Composed_1 t_slices_ContainsFuncint_int__gravity_Composed_1 v_any_slices_ContainsFuncint_int__gravity_Composed_1
  exact v_scan_idx p0 0 (Int.le_refl 0)

abbrev con_slices_ContainsFuncint_int__gravity_Composed_1 : Con := ⟨P_slices_ContainsFuncint_int__gravity_Composed_1, R_slices_ContainsFuncint_int__gravity_Composed_1, fun x => qre_slices_ContainsFuncint_int__gravity_Composed_1 x.1 x.2, fun x => t_slices_ContainsFuncint_int__gravity_Composed_1 x.1 x.2⟩
theorem ok_slices_ContainsFuncint_int__gravity_Composed_1 : ConOk Tryd.prog 91 con_slices_ContainsFuncint_int__gravity_Composed_1 := ⟨k_slices_ContainsFuncint_int__gravity_Composed_1, fun x hx => ret_tf (ps := P_slices_ContainsFuncint_int__gravity_Composed_1) (rs := R_slices_ContainsFuncint_int__gravity_Composed_1) (x := x) (y := t_slices_ContainsFuncint_int__gravity_Composed_1 x.1 x.2) e_slices_ContainsFuncint_int__gravity_Composed_1 hC_slices_ContainsFuncint_int__gravity_Composed_1 (tf_of (w_slices_ContainsFuncint_int__gravity_Composed_1_eq x.1 x.2 (fun z => z = t_slices_ContainsFuncint_int__gravity_Composed_1 x.1 x.2)) (d_slices_ContainsFuncint_int__gravity_Composed_1 x.1 x.2 (fun z => z = t_slices_ContainsFuncint_int__gravity_Composed_1 x.1 x.2) (pp_slices_ContainsFuncint_int__gravity_Composed_1 x.1 x.2 hx) (tt_slices_ContainsFuncint_int__gravity_Composed_1 x.1 x.2 hx)))⟩
/- gravity_Composed -/
def C_gravity_Composed : Cons := [(75, [], con_gravity_CheckFilter), (89, [], con_gravity_unless), (88, [], con_gravity_first), (90, ownMark, con_gravity_both), (91, [92], con_slices_ContainsFuncint_int__gravity_Composed_1)]
theorem hC_gravity_Composed : ConsOk Tryd.prog C_gravity_Composed := ConsOk.cons ok_gravity_CheckFilter <| ConsOk.cons ok_gravity_unless <| ConsOk.cons ok_gravity_first <| ConsOk.consO ok_gravity_both <| ConsOk.cons ok_slices_ContainsFuncint_int__gravity_Composed_1 <| ConsOk.nil
def w_gravity_Composed (p0 : (List Int)) (p1 : (List Int)) (K : ((List Int) × Int) → Prop) : Prop :=
 ((lenOk p0) ∧
  ((lenOk p1) ∧
  ((lenOk ((v_filerr p0) :: ((v_filerr p1) :: ((s_gravity_unless (decide ((IntKind.i64.wrap ((IntKind.i64.wrap ((((List.length p0) : Nat) : Int) + (((List.length p1) : Nat) : Int))) - (1 : Int))) ≤ (9 : Int))) (8 : Int)) :: ([] : List Int))))) ∧
  (((((v_first ((v_filerr p0) :: ((v_filerr p1) :: ((s_gravity_unless (decide ((IntKind.i64.wrap ((IntKind.i64.wrap ((((List.length p0) : Nat) : Int) + (((List.length p1) : Nat) : Int))) - (1 : Int))) ≤ (9 : Int))) (8 : Int)) :: ([] : List Int))))) != (0 : Int)) = true) →
  (K (([] : List Int), (v_first ((v_filerr p0) :: ((v_filerr p1) :: ((s_gravity_unless (decide ((IntKind.i64.wrap ((IntKind.i64.wrap ((((List.length p0) : Nat) : Int) + (((List.length p1) : Nat) : Int))) - (1 : Int))) ≤ (9 : Int))) (8 : Int)) :: ([] : List Int)))))))) ∧
  ((((v_first ((v_filerr p0) :: ((v_filerr p1) :: ((s_gravity_unless (decide ((IntKind.i64.wrap ((IntKind.i64.wrap ((((List.length p0) : Nat) : Int) + (((List.length p1) : Nat) : Int))) - (1 : Int))) ≤ (9 : Int))) (8 : Int)) :: ([] : List Int))))) != (0 : Int)) = false) →
  (((1 ≤ (List.length p0)) ∧
    ((List.length p0) ≤ 1000000)) ∧
    (((1 ≤ (List.length p1)) ∧
    ((List.length p1) ≤ 1000000)) ∧
    (((0 : Int) ≤ (IntKind.i64.wrap ((IntKind.i64.wrap ((((List.length (v_both p0)) : Nat) : Int) + (((List.length (v_both p1)) : Nat) : Int))) - (1 : Int)))) ∧
    ((((8 : Int) * (IntKind.i64.wrap ((IntKind.i64.wrap ((((List.length (v_both p0)) : Nat) : Int) + (((List.length (v_both p1)) : Nat) : Int))) - (1 : Int)))) ≤ (281474976710656 : Int)) ∧
    (((IntKind.i64.wrap ((IntKind.i64.wrap ((((List.length (v_both p0)) : Nat) : Int) + (((List.length (v_both p1)) : Nat) : Int))) - (1 : Int))) ≤ (9223372036854775807 : Int)) ∧
    (∃ n0, (loopP (fun (y1 : (Int × (List Int))) k2 =>
      ((((decide (y1.1 < (((List.length (v_both p0)) : Nat) : Int))) = true) →
      (((0 : Int) ≤ y1.1) ∧
        ((y1.1 < (((List.length (v_both p0)) : Nat) : Int)) ∧
        (∃ n3, (loopP (fun (y4 : (Int × (List Int))) k5 =>
          ((((decide (y4.1 < (((List.length (v_both p1)) : Nat) : Int))) = true) →
          (((0 : Int) ≤ y4.1) ∧
            ((y4.1 < (((List.length (v_both p1)) : Nat) : Int)) ∧
            (((0 : Int) ≤ (IntKind.i64.wrap (y1.1 + y4.1))) ∧
            (((IntKind.i64.wrap (y1.1 + y4.1)) < (((List.length y4.2) : Nat) : Int)) ∧
            (((0 : Int) ≤ (IntKind.i64.wrap (y1.1 + y4.1))) ∧
            (((IntKind.i64.wrap (y1.1 + y4.1)) < (((List.length y4.2) : Nat) : Int)) ∧
            (k5 ((IntKind.i64.wrap (y4.1 + (1 : Int))), (List.set y4.2 (Int.toNat (IntKind.i64.wrap (y1.1 + y4.1))) (IntKind.i64.wrap ((List.getD y4.2 (Int.toNat (IntKind.i64.wrap (y1.1 + y4.1))) (0 : Int)) + (IntKind.i64.wrap ((List.getD (v_both p0) (Int.toNat y1.1) (0 : Int)) * (List.getD (v_both p1) (Int.toNat y4.1) (0 : Int)))))))))))))))) ∧
          (((decide (y4.1 < (((List.length (v_both p1)) : Nat) : Int))) = false) →
          (k2 ((IntKind.i64.wrap (y1.1 + (1 : Int))), y4.2))))) n3 ((0 : Int), y1.2)))))) ∧
      (((decide (y1.1 < (((List.length (v_both p0)) : Nat) : Int))) = false) →
      (((0 : Int) ≤ (IntKind.i64.wrap (Int.tdiv (((List.length y1.2) : Nat) : Int) (2 : Int)))) ∧
        (((IntKind.i64.wrap (Int.tdiv (((List.length y1.2) : Nat) : Int) (2 : Int))) < (((List.length y1.2) : Nat) : Int)) ∧
        (((((List.length y1.2) : Nat) : Int) ≤ (((List.length y1.2) : Nat) : Int)) ∧
        ((lenOk (List.take (Int.toNat ((((List.length y1.2) : Nat) : Int) - (IntKind.i64.wrap (Int.tdiv (((List.length y1.2) : Nat) : Int) (2 : Int))))) (List.drop (Int.toNat (IntKind.i64.wrap (Int.tdiv (((List.length y1.2) : Nat) : Int) (2 : Int)))) y1.2))) ∧
        ((((v_any_slices_ContainsFuncint_int__gravity_Composed_1 (List.take (Int.toNat ((((List.length y1.2) : Nat) : Int) - (IntKind.i64.wrap (Int.tdiv (((List.length y1.2) : Nat) : Int) (2 : Int))))) (List.drop (Int.toNat (IntKind.i64.wrap (Int.tdiv (((List.length y1.2) : Nat) : Int) (2 : Int)))) y1.2))) = true) →
        (K (([] : List Int), (8 : Int)))) ∧
        (((v_any_slices_ContainsFuncint_int__gravity_Composed_1 (List.take (Int.toNat ((((List.length y1.2) : Nat) : Int) - (IntKind.i64.wrap (Int.tdiv (((List.length y1.2) : Nat) : Int) (2 : Int))))) (List.drop (Int.toNat (IntKind.i64.wrap (Int.tdiv (((List.length y1.2) : Nat) : Int) (2 : Int)))) y1.2))) = false) →
        (K ((List.take (Int.toNat ((((List.length y1.2) : Nat) : Int) - (IntKind.i64.wrap (Int.tdiv (((List.length y1.2) : Nat) : Int) (2 : Int))))) (List.drop (Int.toNat (IntKind.i64.wrap (Int.tdiv (((List.length y1.2) : Nat) : Int) (2 : Int)))) y1.2)), (0 : Int)))))))))))) n0 ((0 : Int), (List.replicate (Int.toNat (IntKind.i64.wrap ((IntKind.i64.wrap ((((List.length (v_both p0)) : Nat) : Int) + (((List.length (v_both p1)) : Nat) : Int))) - (1 : Int)))) (0 : Int)))))))))))))))
set_option maxHeartbeats 4000000 in
theorem w_gravity_Composed_eq (p0 : (List Int)) (p1 : (List Int)) (K : ((List Int) × Int) → Prop) : tfn F_gravity_Composed A_gravity_Composed C_gravity_Composed P_gravity_Composed R_gravity_Composed (p0, p1) K = w_gravity_Composed p0 p1 K := by kernel_rfl
def st_gravity_Composed_0 (p0 : (List Int)) (p1 : (List Int)) (y1 : (Int × (List Int))) (y3 : (Int × (List Int))) : (Int × (List Int)) ⊕ ((Int × (List Int)) ⊕ ((List Int) × Int)) :=
  (cond (decide (y3.1 < (((List.length (v_both p1)) : Nat) : Int))) (Sum.inl ((IntKind.i64.wrap (y3.1 + (1 : Int))), (List.set y3.2 (Int.toNat (IntKind.i64.wrap (y1.1 + y3.1))) (IntKind.i64.wrap ((List.getD y3.2 (Int.toNat (IntKind.i64.wrap (y1.1 + y3.1))) (0 : Int)) + (IntKind.i64.wrap ((List.getD (v_both p0) (Int.toNat y1.1) (0 : Int)) * (List.getD (v_both p1) (Int.toNat y3.1) (0 : Int)))))))))
    (Sum.inr (Sum.inl ((IntKind.i64.wrap (y1.1 + (1 : Int))), y3.2))))
abbrev sp_gravity_Composed_0 (p0 : (List Int)) (p1 : (List Int)) (y1 : (Int × (List Int))) (y3 : (Int × (List Int))) : List Prop := [(((decide (y3.1 < (((List.length (v_both p1)) : Nat) : Int))) = true) → ((0 : Int) ≤ y3.1)),
    (((decide (y3.1 < (((List.length (v_both p1)) : Nat) : Int))) = true) → (y3.1 < (((List.length (v_both p1)) : Nat) : Int))),
    (((decide (y3.1 < (((List.length (v_both p1)) : Nat) : Int))) = true) → ((0 : Int) ≤ (IntKind.i64.wrap (y1.1 + y3.1)))),
    (((decide (y3.1 < (((List.length (v_both p1)) : Nat) : Int))) = true) → ((IntKind.i64.wrap (y1.1 + y3.1)) < (((List.length y3.2) : Nat) : Int)))]
def st_gravity_Composed_1 (p0 : (List Int)) (p1 : (List Int)) (y1 : (Int × (List Int))) : (Int × (List Int)) ⊕ ((List Int) × Int) :=
  (cond (decide (y1.1 < (((List.length (v_both p0)) : Nat) : Int))) (lpv (Sum.inr ([], (0 : Int))) (st_gravity_Composed_0 p0 p1 y1) ((0 : Int), y1.2))
    (cond (v_any_slices_ContainsFuncint_int__gravity_Composed_1 (List.take (Int.toNat ((((List.length y1.2) : Nat) : Int) - (IntKind.i64.wrap (Int.tdiv (((List.length y1.2) : Nat) : Int) (2 : Int))))) (List.drop (Int.toNat (IntKind.i64.wrap (Int.tdiv (((List.length y1.2) : Nat) : Int) (2 : Int)))) y1.2))) (Sum.inr (([] : List Int), (8 : Int)))
    (Sum.inr ((List.take (Int.toNat ((((List.length y1.2) : Nat) : Int) - (IntKind.i64.wrap (Int.tdiv (((List.length y1.2) : Nat) : Int) (2 : Int))))) (List.drop (Int.toNat (IntKind.i64.wrap (Int.tdiv (((List.length y1.2) : Nat) : Int) (2 : Int)))) y1.2)), (0 : Int)))))
abbrev sp_gravity_Composed_1 (p0 : (List Int)) (p1 : (List Int)) (y1 : (Int × (List Int))) : List Prop := [(((decide (y1.1 < (((List.length (v_both p0)) : Nat) : Int))) = true) → ((0 : Int) ≤ y1.1)),
    (((decide (y1.1 < (((List.length (v_both p0)) : Nat) : Int))) = true) → (y1.1 < (((List.length (v_both p0)) : Nat) : Int))),
    (((decide (y1.1 < (((List.length (v_both p0)) : Nat) : Int))) = true) → (OkL (st_gravity_Composed_0 p0 p1 y1) (sp_gravity_Composed_0 p0 p1 y1) ((0 : Int), y1.2))),
    (((decide (y1.1 < (((List.length (v_both p0)) : Nat) : Int))) = false) → ((0 : Int) ≤ (IntKind.i64.wrap (Int.tdiv (((List.length y1.2) : Nat) : Int) (2 : Int))))),
    (((decide (y1.1 < (((List.length (v_both p0)) : Nat) : Int))) = false) → ((IntKind.i64.wrap (Int.tdiv (((List.length y1.2) : Nat) : Int) (2 : Int))) < (((List.length y1.2) : Nat) : Int))),
    (((decide (y1.1 < (((List.length (v_both p0)) : Nat) : Int))) = false) → ((((List.length y1.2) : Nat) : Int) ≤ (((List.length y1.2) : Nat) : Int))),
    (((decide (y1.1 < (((List.length (v_both p0)) : Nat) : Int))) = false) → (lenOk (List.take (Int.toNat ((((List.length y1.2) : Nat) : Int) - (IntKind.i64.wrap (Int.tdiv (((List.length y1.2) : Nat) : Int) (2 : Int))))) (List.drop (Int.toNat (IntKind.i64.wrap (Int.tdiv (((List.length y1.2) : Nat) : Int) (2 : Int)))) y1.2))))]
def s_gravity_Composed (p0 : (List Int)) (p1 : (List Int)) : ((List Int) × Int) :=
  (cond ((v_first ((v_filerr p0) :: ((v_filerr p1) :: ((s_gravity_unless (decide ((IntKind.i64.wrap ((IntKind.i64.wrap ((((List.length p0) : Nat) : Int) + (((List.length p1) : Nat) : Int))) - (1 : Int))) ≤ (9 : Int))) (8 : Int)) :: ([] : List Int))))) != (0 : Int)) (([] : List Int), (v_first ((v_filerr p0) :: ((v_filerr p1) :: ((s_gravity_unless (decide ((IntKind.i64.wrap ((IntKind.i64.wrap ((((List.length p0) : Nat) : Int) + (((List.length p1) : Nat) : Int))) - (1 : Int))) ≤ (9 : Int))) (8 : Int)) :: ([] : List Int))))))
    (lpv ([], (0 : Int)) (st_gravity_Composed_1 p0 p1) ((0 : Int), (List.replicate (Int.toNat (IntKind.i64.wrap ((IntKind.i64.wrap ((((List.length (v_both p0)) : Nat) : Int) + (((List.length (v_both p1)) : Nat) : Int))) - (1 : Int)))) (0 : Int)))))
abbrev pre_gravity_Composed (p0 : (List Int)) (p1 : (List Int)) : List Prop := [(lenOk p0),
    (lenOk p1),
    ((((v_first ((v_filerr p0) :: ((v_filerr p1) :: ((s_gravity_unless (decide ((IntKind.i64.wrap ((IntKind.i64.wrap ((((List.length p0) : Nat) : Int) + (((List.length p1) : Nat) : Int))) - (1 : Int))) ≤ (9 : Int))) (8 : Int)) :: ([] : List Int))))) != (0 : Int)) = false) → ((1 ≤ (List.length p0)) ∧ ((List.length p0) ≤ 1000000))),
    ((((v_first ((v_filerr p0) :: ((v_filerr p1) :: ((s_gravity_unless (decide ((IntKind.i64.wrap ((IntKind.i64.wrap ((((List.length p0) : Nat) : Int) + (((List.length p1) : Nat) : Int))) - (1 : Int))) ≤ (9 : Int))) (8 : Int)) :: ([] : List Int))))) != (0 : Int)) = false) → ((1 ≤ (List.length p1)) ∧ ((List.length p1) ≤ 1000000))),
    ((((v_first ((v_filerr p0) :: ((v_filerr p1) :: ((s_gravity_unless (decide ((IntKind.i64.wrap ((IntKind.i64.wrap ((((List.length p0) : Nat) : Int) + (((List.length p1) : Nat) : Int))) - (1 : Int))) ≤ (9 : Int))) (8 : Int)) :: ([] : List Int))))) != (0 : Int)) = false) → ((0 : Int) ≤ (IntKind.i64.wrap ((IntKind.i64.wrap ((((List.length (v_both p0)) : Nat) : Int) + (((List.length (v_both p1)) : Nat) : Int))) - (1 : Int))))),
    ((((v_first ((v_filerr p0) :: ((v_filerr p1) :: ((s_gravity_unless (decide ((IntKind.i64.wrap ((IntKind.i64.wrap ((((List.length p0) : Nat) : Int) + (((List.length p1) : Nat) : Int))) - (1 : Int))) ≤ (9 : Int))) (8 : Int)) :: ([] : List Int))))) != (0 : Int)) = false) → (((8 : Int) * (IntKind.i64.wrap ((IntKind.i64.wrap ((((List.length (v_both p0)) : Nat) : Int) + (((List.length (v_both p1)) : Nat) : Int))) - (1 : Int)))) ≤ (281474976710656 : Int))),
    ((((v_first ((v_filerr p0) :: ((v_filerr p1) :: ((s_gravity_unless (decide ((IntKind.i64.wrap ((IntKind.i64.wrap ((((List.length p0) : Nat) : Int) + (((List.length p1) : Nat) : Int))) - (1 : Int))) ≤ (9 : Int))) (8 : Int)) :: ([] : List Int))))) != (0 : Int)) = false) → ((IntKind.i64.wrap ((IntKind.i64.wrap ((((List.length (v_both p0)) : Nat) : Int) + (((List.length (v_both p1)) : Nat) : Int))) - (1 : Int))) ≤ (9223372036854775807 : Int))),
    ((((v_first ((v_filerr p0) :: ((v_filerr p1) :: ((s_gravity_unless (decide ((IntKind.i64.wrap ((IntKind.i64.wrap ((((List.length p0) : Nat) : Int) + (((List.length p1) : Nat) : Int))) - (1 : Int))) ≤ (9 : Int))) (8 : Int)) :: ([] : List Int))))) != (0 : Int)) = false) → (OkL (st_gravity_Composed_1 p0 p1) (sp_gravity_Composed_1 p0 p1) ((0 : Int), (List.replicate (Int.toNat (IntKind.i64.wrap ((IntKind.i64.wrap ((((List.length (v_both p0)) : Nat) : Int) + (((List.length (v_both p1)) : Nat) : Int))) - (1 : Int)))) (0 : Int)))))]
set_option maxHeartbeats 4000000 in
theorem d_gravity_Composed (p0 : (List Int)) (p1 : (List Int)) (K : ((List Int) × Int) → Prop) (hp : ∀ p ∈ pre_gravity_Composed p0 p1, p) (h : K (s_gravity_Composed p0 p1)) : w_gravity_Composed p0 p1 K := by
  unfold w_gravity_Composed
  unfold s_gravity_Composed at h
  obtain ⟨hp0, hp1, hp2, hp3, hp4, hp5, hp6, hp7, _⟩ := conj_of hp
  exact ⟨(hp0), (hp1), (lenOk_of 3 rfl (by decide)), (br' h (fun e0 h => h)
    (fun e0 h => ⟨(hp2 e0), (hp3 e0), (hp4 e0), (hp5 e0), (hp6 e0), (loop_gen (hp7 e0) h (fun y1 k1 hp h => by
  unfold st_gravity_Composed_1 at h; obtain ⟨hp0, hp1, hp2, hp3, hp4, hp5, hp6, _⟩ := conj_of hp
  exact (br' h (fun e2 h => ⟨(hp0 e2), (hp1 e2), (loop_gen (hp2 e2) h (fun y3 k3 hp h => by
  unfold st_gravity_Composed_0 at h; obtain ⟨hp0, hp1, hp2, hp3, _⟩ := conj_of hp
  exact (br' h (fun e4 h => ⟨(hp0 e4), (hp1 e4), (hp2 e4), (hp3 e4), (hp2 e4), (hp3 e4), h⟩)
    (fun e4 h => h))))⟩)
    (fun e2 h => ⟨(hp3 e2), (hp4 e2), (hp5 e2), (hp6 e2), (br' h (fun e5 h => h)
    (fun e5 h => h))⟩))))⟩))⟩
/-- The numbers of two filters composed. -/
def v_conv (f g : List Int) : List Int := (List.range' 0 (f.length + g.length - 1)).map fun (k : Nat) => v_sums (fun i => v_at f ((i : Int) - ((f.length : Int) - 1)) * v_at g ((k : Int) - ((i : Int) - ((f.length : Int) - 1)))) 0 (2 * f.length - 1)
/-- The sums of products behind so many rounds. -/
def v_pr (f g : List Int) (i t : Nat) : Int := v_sums (fun i => v_at f ((i : Int) - ((f.length : Int) - 1)) * v_at g ((t : Int) - (i : Int) - ((g.length : Int) - 1))) 0 i
def v_prod2 (f g : List Int) (i : Nat) : List Int := (List.range' 0 (2 * (f.length + g.length - 1) - 1)).map fun t => v_pr f g i t
theorem v_prod2_len (f g : List Int) (i : Nat) : (v_prod2 f g i).length = 2 * (f.length + g.length - 1) - 1 := by simp [v_prod2]
theorem v_prod2_get {f g : List Int} {i t : Nat} (h : t < 2 * (f.length + g.length - 1) - 1) : (v_prod2 f g i).getD t 0 = v_pr f g i t := by
  unfold v_prod2; rw [gd_map_range h, Nat.zero_add]
theorem v_at_mul {f g : List Int} (h0 : v_fw f) (h1 : v_fw g) (a b : Int) : -10000000000 ≤ v_at f a * v_at g b ∧ v_at f a * v_at g b ≤ 10000000000 := by
  have := mul_abs (h0.at a).1 (h0.at a).2 (h1.at b).1 (h1.at b).2
  omega
theorem v_pr_in {f g : List Int} (h0 : v_fw f) (h1 : v_fw g) (i t : Nat) : -(i * 10000000000) ≤ v_pr f g i t ∧ v_pr f g i t ≤ i * 10000000000 := v_sums_in i 0 (fun _ _ _ => v_at_mul h0 h1 _ _)
theorem l_gravity_Composed_0 (p0 p1 : List Int) (h0 : v_fw p0) (h1 : v_fw p1) (i : Nat) (hi : i < 2 * p0.length - 1) : OkL (st_gravity_Composed_0 p0 p1 ((i : Int), v_prod2 p0 p1 i)) (sp_gravity_Composed_0 p0 p1 ((i : Int), v_prod2 p0 p1 i)) (0, v_prod2 p0 p1 i) ∧ lpv (Sum.inr ([], 0)) (st_gravity_Composed_0 p0 p1 ((i : Int), v_prod2 p0 p1 i)) (0, v_prod2 p0 p1 i) = Sum.inl (((i + 1 : Nat) : Int), v_prod2 p0 p1 (i + 1)) := by
  have a1 := h0.one
  have a9 := h0.nine
  have b1 := h1.one
  have b9 := h1.nine
  have hb := v_both_len b1
  have hL := v_prod2_len p0 p1 i
  refine for_is (fun i t => (i, t)) 0 (2 * p1.length - 1) (fun j l => l.length = 2 * (p0.length + p1.length - 1) - 1 ∧ ∀ t, t < 2 * (p0.length + p1.length - 1) - 1 → l.getD t 0 = v_pr p0 p1 i t + if i ≤ t ∧ t < i + j then v_at p0 ((i : Int) - ((p0.length : Int) - 1)) * v_at p1 ((t : Int) - (i : Int) - ((p1.length : Int) - 1)) else 0) (fun _ _ => Sum.inl (((i + 1 : Nat) : Int), v_prod2 p0 p1 (i + 1))) (by omega) (by omega) ?_ ?_ _ ⟨hL, fun t ht => by rw [v_prod2_get ht, if_neg (by omega)]; omega⟩
  · rintro l ⟨g1, g2⟩
    have hd : decide (((2 * p1.length - 1 : Nat) : Int) < ((v_both p1).length : Nat)) = false := decide_eq_false (by omega)
    refine ⟨by simp only [sp_gravity_Composed_0, List.forall_mem_cons, hd]; simp, ?_⟩
    simp only [st_gravity_Composed_0, hd, cond_false, wrap_nat (show (i : Int) ≤ 9223372036854775806 by omega)]
    congr 3
    refine gd_ext 0 (by rw [g1, v_prod2_len]) fun t ht => ?_
    rw [g1] at ht
    rw [g2 t ht, v_prod2_get ht]
    unfold v_pr
    rw [v_sums_last, Nat.zero_add]
    split
    · rfl
    · rw [v_at_out (f := p1) (by omega), Int.mul_zero]
  · rintro j l _ hj ⟨g1, g2⟩
    have hd : decide ((j : Int) < ((v_both p1).length : Nat)) = true := decide_eq_true (by omega)
    have hw : IntKind.i64.wrap ((i : Int) + (j : Int)) = ((i + j : Nat) : Int) := by rw [wrap_id (by omega) (by omega)]; omega
    refine ⟨?_, .inl ⟨_, by simp only [st_gravity_Composed_0, hd, cond_true, hw, Int.toNat_natCast, wrap_nat (show (j : Int) ≤ 9223372036854775806 by omega)]; rfl, ⟨by rw [List.length_set]; exact g1, fun t ht => ?_⟩, rfl⟩⟩
    · simp only [sp_gravity_Composed_0, List.forall_mem_cons, decide_eq_true_eq, hw]
      exact ⟨fun _ => by omega, fun _ => by omega, fun _ => by omega, fun _ => by omega, by simp⟩
    · have hm := v_at_mul h0 h1 ((i : Int) - ((p0.length : Int) - 1)) ((j : Int) - ((p1.length : Int) - 1))
      have hs := v_pr_in h0 h1 i (i + j)
      rw [gd_set (by omega)]
      by_cases e : t = i + j
      · subst e
        rw [if_pos rfl, v_both_at hi, v_both_at hj, g2 (i + j) (by omega), if_neg (by omega), wrap_id (n := v_at p0 ((i : Int) - ((p0.length : Int) - 1)) * v_at p1 ((j : Int) - ((p1.length : Int) - 1))) (by omega) (by omega), wrap_id (by omega) (by omega)]
        rw [if_pos (by omega), show ((i + j : Nat) : Int) - (i : Int) - ((p1.length : Int) - 1) = (j : Int) - ((p1.length : Int) - 1) by omega]; omega
      · rw [if_neg e, g2 t ht]
        congr 1
        by_cases c : i ≤ t ∧ t < i + j
        · rw [if_pos c, if_pos (by omega)]
        · rw [if_neg c, if_neg (by omega)]
theorem v_conv_len (f g : List Int) : (v_conv f g).length = f.length + g.length - 1 := by simp [v_conv]
theorem v_conv_get {f g : List Int} {k : Nat} (h : k < f.length + g.length - 1) : (v_conv f g).getD k 0 = v_sums (fun i => v_at f ((i : Int) - ((f.length : Int) - 1)) * v_at g ((k : Int) - ((i : Int) - ((f.length : Int) - 1)))) 0 (2 * f.length - 1) := by
  unfold v_conv; rw [gd_map_range h, Nat.zero_add]
theorem v_prod2_conv {f g : List Int} (h0 : 1 ≤ f.length) (h1 : 1 ≤ g.length) : List.take (f.length + g.length - 1) (List.drop (f.length + g.length - 2) (v_prod2 f g (2 * f.length - 1))) = v_conv f g := by
  refine gd_ext 0 (by rw [v_conv_len, List.length_take, List.length_drop, v_prod2_len]; omega) fun k hk => ?_
  rw [List.length_take, List.length_drop, v_prod2_len] at hk
  rw [gd_take (by omega), gd_drop, v_prod2_get (by omega), v_conv_get (by omega)]
  refine v_sums_congr _ _ fun i _ _ => ?_
  congr 2; omega
theorem l_gravity_Composed (p0 p1 : List Int) (h0 : v_fw p0) (h1 : v_fw p1) : OkL (st_gravity_Composed_1 p0 p1) (sp_gravity_Composed_1 p0 p1) (0, v_prod2 p0 p1 0) ∧ lpv ([], 0) (st_gravity_Composed_1 p0 p1) (0, v_prod2 p0 p1 0) = cond (v_any_slices_ContainsFuncint_int__gravity_Composed_1 (v_conv p0 p1)) ([], 8) (v_conv p0 p1, 0) := by
  have a1 := h0.one
  have a9 := h0.nine
  have b1 := h1.one
  have b9 := h1.nine
  have hb := v_both_len a1
  refine for_is (fun i t => (i, t)) 0 (2 * p0.length - 1) (fun j l => l = v_prod2 p0 p1 j) (fun _ _ => cond (v_any_slices_ContainsFuncint_int__gravity_Composed_1 (v_conv p0 p1)) ([], 8) (v_conv p0 p1, 0)) (by omega) (by omega) ?_ ?_ _ rfl
  · rintro l rfl
    have hd : decide (((2 * p0.length - 1 : Nat) : Int) < ((v_both p0).length : Nat)) = false := decide_eq_false (by omega)
    have hq : IntKind.i64.wrap (Int.tdiv (((v_prod2 p0 p1 (2 * p0.length - 1)).length : Nat) : Int) 2) = ((p0.length + p1.length - 2 : Nat) : Int) := by
      rw [v_prod2_len, Int.tdiv_eq_ediv_of_nonneg (by omega), wrap_id (by omega) (by omega)]; omega
    have hc : List.take (Int.toNat ((((v_prod2 p0 p1 (2 * p0.length - 1)).length : Nat) : Int) - ((p0.length + p1.length - 2 : Nat) : Int))) (List.drop (Int.toNat ((p0.length + p1.length - 2 : Nat) : Int)) (v_prod2 p0 p1 (2 * p0.length - 1))) = v_conv p0 p1 := by
      rw [← v_prod2_conv a1 b1, v_prod2_len, Int.toNat_natCast]
      congr 1; omega
    have hl := v_conv_len p0 p1
    refine ⟨?_, ?_⟩
    · simp only [sp_gravity_Composed_1, List.forall_mem_cons, decide_eq_true_eq, hq, hc]
      refine ⟨fun h => by omega, fun h => by omega, fun h => absurd h (by omega), fun _ => by omega, fun _ => by rw [v_prod2_len]; omega, fun _ => by omega, fun _ => lenOk_m (by omega), by simp⟩
    · simp only [st_gravity_Composed_1, hd, cond_false, hq, hc]
      cases v_any_slices_ContainsFuncint_int__gravity_Composed_1 (v_conv p0 p1) <;> rfl
  · rintro j l _ hj rfl
    have hd : decide ((j : Int) < ((v_both p0).length : Nat)) = true := decide_eq_true (by omega)
    obtain ⟨l1, l2⟩ := l_gravity_Composed_0 p0 p1 h0 h1 j hj
    refine ⟨?_, .inl ⟨_, by simp only [st_gravity_Composed_1, hd, cond_true]; exact l2, rfl, rfl⟩⟩
    simp only [sp_gravity_Composed_1, List.forall_mem_cons]
    have no : ∀ {p : Prop}, decide ((j : Int) < ((v_both p0).length : Nat)) = false → p := fun h => by rw [hd] at h; cases h
    exact ⟨fun _ => by omega, fun _ => by omega, fun _ => l1, no, no, no, no, by simp⟩
/-- The error of two filters that are composed. -/
def v_cerr (p0 p1 : List Int) : Int := v_first [v_filerr p0, v_filerr p1, s_gravity_unless (decide ((p0.length : Int) + p1.length - 1 ≤ 9)) 8]
theorem tx_cerr {p0 p1 : List Int} (h : v_cerr p0 p1 = 0) : v_fok p0 ∧ v_fok p1 ∧ p0.length + p1.length - 1 ≤ 9 := by
  obtain ⟨h1, h⟩ := v_first0 h
  obtain ⟨h2, h⟩ := v_first0 h
  obtain ⟨h3, _⟩ := v_first0 h
  have := of_decide_eq_true (tx_unless0' (by decide) h3)
  exact ⟨tx_fok h1, tx_fok h2, by omega⟩
abbrev t_gravity_Composed (p0 p1 : List Int) : List Int × Int := cond (v_cerr p0 p1 != 0) ([], v_cerr p0 p1) (cond (v_any_slices_ContainsFuncint_int__gravity_Composed_1 (v_conv p0 p1)) ([], 8) (v_conv p0 p1, 0))
abbrev qre_gravity_Composed (p0 p1 : List Int) : List Prop := [p0.length ≤ 1000000, p1.length ≤ 1000000]
theorem l_gravity_Composed1 {p0 p1 : List Int} (h0 : p0.length ≤ 1000000) (h1 : p1.length ≤ 1000000) : v_first (v_filerr p0 :: v_filerr p1 :: s_gravity_unless (decide (IntKind.i64.wrap (IntKind.i64.wrap (((p0.length : Nat) : Int) + ((p1.length : Nat) : Int)) - 1) ≤ 9)) 8 :: []) = v_cerr p0 p1 := by
  rw [wrap_id (n := ((p0.length : Nat) : Int) + ((p1.length : Nat) : Int)) (by omega) (by omega), wrap_id (by omega) (by omega)]; rfl
theorem l_gravity_Composed2 {p0 p1 : List Int} (h0 : v_fw p0) (h1 : v_fw p1) : IntKind.i64.wrap (IntKind.i64.wrap ((((v_both p0).length : Nat) : Int) + (((v_both p1).length : Nat) : Int)) - 1) = ((2 * (p0.length + p1.length - 1) - 1 : Nat) : Int) := by
  have a1 := h0.one
  have a9 := h0.nine
  have b1 := h1.one
  have b9 := h1.nine
  rw [v_both_len a1, v_both_len b1, wrap_id (n := ((2 * p0.length - 1 : Nat) : Int) + ((2 * p1.length - 1 : Nat) : Int)) (by omega) (by omega), wrap_id (by omega) (by omega)]; omega
theorem l_gravity_Composed3 {p0 p1 : List Int} : List.replicate (2 * (p0.length + p1.length - 1) - 1) (0 : Int) = v_prod2 p0 p1 0 := by
  refine gd_ext 0 (by rw [v_prod2_len, List.length_replicate]) fun t ht => ?_
  rw [List.length_replicate] at ht
  rw [gd_rep ht, v_prod2_get ht]; rfl
theorem pp_gravity_Composed (p0 p1 : List Int) (hq : ∀ p ∈ qre_gravity_Composed p0 p1, p) : ∀ p ∈ pre_gravity_Composed p0 p1, p := by
  obtain ⟨q0, q1, _⟩ := conj_of hq
  simp only [pre_gravity_Composed, List.forall_mem_cons, l_gravity_Composed1 q0 q1]
  have key : (v_cerr p0 p1 != 0) = false → v_fok p0 ∧ v_fok p1 ∧ p0.length + p1.length - 1 ≤ 9 := fun h => tx_cerr (bne0' h)
  refine ⟨lenOk_m (by omega), lenOk_m (by omega), fun h => ⟨(key h).1.one, q0⟩, fun h => ⟨(key h).2.1.one, q1⟩, fun h => ?_, fun h => ?_, fun h => ?_, fun h => ?_, by simp⟩
  all_goals
    obtain ⟨k1, k2, k3⟩ := key h
    rw [l_gravity_Composed2 k1.tov_fw k2.tov_fw]
  · omega
  · omega
  · omega
  · rw [Int.toNat_natCast, l_gravity_Composed3]
    exact (l_gravity_Composed p0 p1 k1.tov_fw k2.tov_fw).1
theorem tt_gravity_Composed (p0 p1 : List Int) (hq : ∀ p ∈ qre_gravity_Composed p0 p1, p) : s_gravity_Composed p0 p1 = t_gravity_Composed p0 p1 := by
  obtain ⟨q0, q1, _⟩ := conj_of hq
  unfold s_gravity_Composed t_gravity_Composed
  rw [l_gravity_Composed1 q0 q1]
  cases h : (v_cerr p0 p1 != 0)
  · obtain ⟨k1, k2, k3⟩ := tx_cerr (bne0' h)
    rw [l_gravity_Composed2 k1.tov_fw k2.tov_fw, Int.toNat_natCast, l_gravity_Composed3]
    exact (l_gravity_Composed p0 p1 k1.tov_fw k2.tov_fw).2
  · rfl

abbrev con_gravity_Composed : Con := ⟨P_gravity_Composed, R_gravity_Composed, fun x => qre_gravity_Composed x.1 x.2, fun x => t_gravity_Composed x.1 x.2⟩
theorem ok_gravity_Composed : ConOk Tryd.prog 17 con_gravity_Composed := ⟨k_gravity_Composed, fun x hx => ret_tf (ps := P_gravity_Composed) (rs := R_gravity_Composed) (x := x) (y := t_gravity_Composed x.1 x.2) e_gravity_Composed hC_gravity_Composed (tf_of (w_gravity_Composed_eq x.1 x.2 (fun z => z = t_gravity_Composed x.1 x.2)) (d_gravity_Composed x.1 x.2 (fun z => z = t_gravity_Composed x.1 x.2) (pp_gravity_Composed x.1 x.2 hx) (tt_gravity_Composed x.1 x.2 hx)))⟩
/- base_Ints -/
def C_base_Ints : Cons := []
theorem hC_base_Ints : ConsOk Tryd.prog C_base_Ints := ConsOk.nil
def w_base_Ints (p0 : (List Int)) (p1 : (List Int)) (K : Bool → Prop) : Prop :=
 (((((((List.length p0) : Nat) : Int) != (((List.length p1) : Nat) : Int)) = true) →
  (K false)) ∧
  ((((((List.length p0) : Nat) : Int) != (((List.length p1) : Nat) : Int)) = false) →
  (∃ n0, (loopP (fun (y1 : Int) k2 =>
      ((((decide (y1 < (((List.length p0) : Nat) : Int))) = true) →
      (((0 : Int) ≤ y1) ∧
        ((y1 < (((List.length p0) : Nat) : Int)) ∧
        (((0 : Int) ≤ y1) ∧
        ((y1 < (((List.length p1) : Nat) : Int)) ∧
        (((((List.getD p0 (Int.toNat y1) (0 : Int)) != (List.getD p1 (Int.toNat y1) (0 : Int))) = true) →
        (K false)) ∧
        ((((List.getD p0 (Int.toNat y1) (0 : Int)) != (List.getD p1 (Int.toNat y1) (0 : Int))) = false) →
        (k2 (IntKind.i64.wrap (y1 + (1 : Int))))))))))) ∧
      (((decide (y1 < (((List.length p0) : Nat) : Int))) = false) →
      (K true)))) n0 (0 : Int)))))
set_option maxHeartbeats 4000000 in
theorem w_base_Ints_eq (p0 : (List Int)) (p1 : (List Int)) (K : Bool → Prop) : tfn F_base_Ints A_base_Ints C_base_Ints P_base_Ints R_base_Ints (p0, p1) K = w_base_Ints p0 p1 K := by kernel_rfl
def st_base_Ints_0 (p0 : (List Int)) (p1 : (List Int)) (y1 : Int) : Int ⊕ Bool :=
  (cond (decide (y1 < (((List.length p0) : Nat) : Int))) (cond ((List.getD p0 (Int.toNat y1) (0 : Int)) != (List.getD p1 (Int.toNat y1) (0 : Int))) (Sum.inr false)
    (Sum.inl (IntKind.i64.wrap (y1 + (1 : Int)))))
    (Sum.inr true))
abbrev sp_base_Ints_0 (p0 : (List Int)) (p1 : (List Int)) (y1 : Int) : List Prop := [(((decide (y1 < (((List.length p0) : Nat) : Int))) = true) → ((0 : Int) ≤ y1)),
    (((decide (y1 < (((List.length p0) : Nat) : Int))) = true) → (y1 < (((List.length p0) : Nat) : Int))),
    (((decide (y1 < (((List.length p0) : Nat) : Int))) = true) → (y1 < (((List.length p1) : Nat) : Int)))]
def s_base_Ints (p0 : (List Int)) (p1 : (List Int)) : Bool :=
  (cond ((((List.length p0) : Nat) : Int) != (((List.length p1) : Nat) : Int)) false
    (lpv false (st_base_Ints_0 p0 p1) (0 : Int)))
abbrev pre_base_Ints (p0 : (List Int)) (p1 : (List Int)) : List Prop := [((((((List.length p0) : Nat) : Int) != (((List.length p1) : Nat) : Int)) = false) → (OkL (st_base_Ints_0 p0 p1) (sp_base_Ints_0 p0 p1) (0 : Int)))]
set_option maxHeartbeats 4000000 in
theorem d_base_Ints (p0 : (List Int)) (p1 : (List Int)) (K : Bool → Prop) (hp : ∀ p ∈ pre_base_Ints p0 p1, p) (h : K (s_base_Ints p0 p1)) : w_base_Ints p0 p1 K := by
  unfold w_base_Ints
  unfold s_base_Ints at h
  obtain ⟨hp0, _⟩ := conj_of hp
  exact (br' h (fun e0 h => h)
    (fun e0 h => (loop_gen (hp0 e0) h (fun y1 k1 hp h => by
  unfold st_base_Ints_0 at h; obtain ⟨hp0, hp1, hp2, _⟩ := conj_of hp
  exact (br' h (fun e2 h => ⟨(hp0 e2), (hp1 e2), (hp0 e2), (hp2 e2), (br' h (fun e3 h => h)
    (fun e3 h => h))⟩)
    (fun e2 h => h))))))
theorem l_base_Ints_0 (p0 p1 : List Int) (hl : lenOk p0) (he : p0.length = p1.length) : OkL (st_base_Ints_0 p0 p1) (sp_base_Ints_0 p0 p1) 0 ∧ lpv false (st_base_Ints_0 p0 p1) 0 = v_scan (fun i x => cond (!((x == (p1.getD i.toNat 0)))) (some false) none) true 0 p0 := by
  refine scan_is p0 0 (fun i x => cond (!((x == (p1.getD i.toNat 0)))) (some false) none) true hl ?_ ?_
  · refine ⟨by simp only [sp_base_Ints_0, List.forall_mem_cons, decide_eq_true_eq]; simp, by simp [st_base_Ints_0]⟩
  · intro j hj
    have hj' : (j : Int) < p0.length := by omega
    refine ⟨by simp only [sp_base_Ints_0, List.forall_mem_cons, decide_eq_true_eq, Int.toNat_natCast]; simp <;> omega, ?_⟩
    simp only [st_base_Ints_0, hj', decide_true, Int.toNat_natCast, cond_true, wrap_nat (show (j : Int) ≤ 9223372036854775806 by unfold lenOk at hl; omega)]
    generalize p0.getD j 0 = x
    generalize p1.getD j 0 = z
    simp only [bne]
    cases (x == z) <;> rfl
abbrev t_base_Ints (p0 p1 : List Int) : Bool := decide (p0 = p1)
abbrev qre_base_Ints (p0 p1 : List Int) : List Prop := [lenOk p0]
theorem pp_base_Ints (p0 p1 : List Int) (hq : ∀ p ∈ qre_base_Ints p0 p1, p) : ∀ p ∈ pre_base_Ints p0 p1, p := by
  simp only [pre_base_Ints, List.forall_mem_cons]
  refine ⟨fun h => (l_base_Ints_0 p0 p1 (conj_of hq).1 ?_).1, by simp⟩
  have h' : (p0.length : Int) = p1.length := by simpa using h
  omega
theorem tt_base_Ints (p0 p1 : List Int) (hq : ∀ p ∈ qre_base_Ints p0 p1, p) : s_base_Ints p0 p1 = t_base_Ints p0 p1 := by
  unfold s_base_Ints t_base_Ints
  by_cases h : p0.length = p1.length
  · rw [show ((p0.length : Int) != (p1.length : Int)) = false by simp [h]]
    refine (l_base_Ints_0 p0 p1 (conj_of hq).1 h).2.trans ?_
    exact v_scan_eq 0 (fun x y => (x == y)) (fun x y => by by_cases h : x = y <;> simp [h]) p0 p1 h
  · rw [show ((p0.length : Int) != (p1.length : Int)) = true by simp; omega]
    have : p0 ≠ p1 := fun e => h (congrArg List.length e)
    simp [this]

abbrev con_base_Ints : Con := ⟨P_base_Ints, R_base_Ints, fun x => qre_base_Ints x.1 x.2, fun x => t_base_Ints x.1 x.2⟩
theorem ok_base_Ints : ConOk Tryd.prog 22 con_base_Ints := ⟨k_base_Ints, fun x hx => ret_tf (ps := P_base_Ints) (rs := R_base_Ints) (x := x) (y := t_base_Ints x.1 x.2) e_base_Ints hC_base_Ints (tf_of (w_base_Ints_eq x.1 x.2 (fun z => z = t_base_Ints x.1 x.2)) (d_base_Ints x.1 x.2 (fun z => z = t_base_Ints x.1 x.2) (pp_base_Ints x.1 x.2 hx) (tt_base_Ints x.1 x.2 hx)))⟩
/- gravity_SumOf -/
def C_gravity_SumOf : Cons := [(75, [], con_gravity_CheckFilter), (116, [], con_gravity_sum)]
theorem hC_gravity_SumOf : ConsOk Tryd.prog C_gravity_SumOf := ConsOk.cons ok_gravity_CheckFilter <| ConsOk.cons ok_gravity_sum <| ConsOk.nil
def w_gravity_SumOf (p0 : (List Int)) (K : (Int × Int) → Prop) : Prop :=
 ((lenOk p0) ∧
  (((((v_filerr p0) != (0 : Int)) = true) →
  (K ((0 : Int), (v_filerr p0)))) ∧
  ((((v_filerr p0) != (0 : Int)) = false) →
  ((v_fw p0) ∧
    (K ((v_fsum p0), (0 : Int)))))))
set_option maxHeartbeats 4000000 in
theorem w_gravity_SumOf_eq (p0 : (List Int)) (K : (Int × Int) → Prop) : tfn F_gravity_SumOf A_gravity_SumOf C_gravity_SumOf P_gravity_SumOf R_gravity_SumOf p0 K = w_gravity_SumOf p0 K := by kernel_rfl
def s_gravity_SumOf (p0 : (List Int)) : (Int × Int) :=
  (cond ((v_filerr p0) != (0 : Int)) ((0 : Int), (v_filerr p0))
    ((v_fsum p0), (0 : Int)))
abbrev pre_gravity_SumOf (p0 : (List Int)) : List Prop := [(lenOk p0),
    ((((v_filerr p0) != (0 : Int)) = false) → (v_fw p0))]
set_option maxHeartbeats 4000000 in
theorem d_gravity_SumOf (p0 : (List Int)) (K : (Int × Int) → Prop) (hp : ∀ p ∈ pre_gravity_SumOf p0, p) (h : K (s_gravity_SumOf p0)) : w_gravity_SumOf p0 K := by
  unfold w_gravity_SumOf
  unfold s_gravity_SumOf at h
  obtain ⟨hp0, hp1, _⟩ := conj_of hp
  exact ⟨(hp0), (br' h (fun e0 h => h)
    (fun e0 h => ⟨(hp1 e0), h⟩))⟩
abbrev con_gravity_SumOf : Con := ⟨P_gravity_SumOf, R_gravity_SumOf, fun x => pre_gravity_SumOf x, fun x => s_gravity_SumOf x⟩
theorem ok_gravity_SumOf : ConOk Tryd.prog 73 con_gravity_SumOf := ⟨k_gravity_SumOf, fun x hx => ret_tf (ps := P_gravity_SumOf) (rs := R_gravity_SumOf) (x := x) (y := s_gravity_SumOf x) e_gravity_SumOf hC_gravity_SumOf (tf_of (w_gravity_SumOf_eq x (fun z => z = s_gravity_SumOf x)) (d_gravity_SumOf x (fun z => z = s_gravity_SumOf x) hx rfl))⟩
/- gravity_GainAt -/
def C_gravity_GainAt : Cons := [(75, [], con_gravity_CheckFilter), (94, [], con_gravity_within), (89, [], con_gravity_unless), (88, [], con_gravity_first)]
theorem hC_gravity_GainAt : ConsOk Tryd.prog C_gravity_GainAt := ConsOk.cons ok_gravity_CheckFilter <| ConsOk.cons ok_gravity_within <| ConsOk.cons ok_gravity_unless <| ConsOk.cons ok_gravity_first <| ConsOk.nil
abbrev q0_gravity_GainAt (p0 : (List Int)) (p1 : Int) := ((v_filerr p0) :: ((s_gravity_unless (s_gravity_within p1 zz0 zz3) zz2) :: ([] : List Int)))
def w_gravity_GainAt (p0 : (List Int)) (p1 : Int) (K : (Int × Int) → Prop) : Prop :=
 ((lenOk p0) ∧
  ((lenOk (q0_gravity_GainAt p0 p1)) ∧
  (((((v_first (q0_gravity_GainAt p0 p1)) != zz0) = true) →
  (K (zz0, (v_first (q0_gravity_GainAt p0 p1))))) ∧
  ((((v_first (q0_gravity_GainAt p0 p1)) != zz0) = false) →
  ((zz0 < (((List.length p0) : Nat) : Int)) ∧
    ((zz0 ≤ zz1) ∧
    ((zz1 ≤ (((List.length p0) : Nat) : Int)) ∧
    (∃ n0, (loopP (fun (y1 : (Int × Int)) k2 =>
      ((((decide (y1.1 < (((List.length (List.drop (Int.toNat zz1) p0)) : Nat) : Int))) = true) →
      ((zz0 ≤ y1.1) ∧
        ((y1.1 < (((List.length (List.drop (Int.toNat zz1) p0)) : Nat) : Int)) ∧
        ((zz0 ≤ (Int.tmod (wi ((wi (y1.1 + zz1)) * p1)) (4 : Int))) ∧
        (((Int.tmod (wi ((wi (y1.1 + zz1)) * p1)) (4 : Int)) < (4 : Int)) ∧
        (k2 ((wi (y1.1 + zz1)), (wi (y1.2 + (wi ((wi (zz2 * (List.getD (List.drop (Int.toNat zz1) p0) (Int.toNat y1.1) zz0))) * (List.getD (zz1 :: (zz0 :: ((-1 : Int) :: (zz0 :: ([] : List Int))))) (Int.toNat (Int.tmod (wi ((wi (y1.1 + zz1)) * p1)) (4 : Int))) zz0)))))))))))) ∧
      (((decide (y1.1 < (((List.length (List.drop (Int.toNat zz1) p0)) : Nat) : Int))) = false) →
      (K (y1.2, zz0))))) n0 (zz0, (List.getD p0 (Int.toNat zz0) zz0)))))))))))
set_option maxHeartbeats 4000000 in
theorem w_gravity_GainAt_eq (p0 : (List Int)) (p1 : Int) (K : (Int × Int) → Prop) : tfn F_gravity_GainAt A_gravity_GainAt C_gravity_GainAt P_gravity_GainAt R_gravity_GainAt (p0, p1) K = w_gravity_GainAt p0 p1 K := by kernel_rfl
def st_gravity_GainAt_0 (p0 : (List Int)) (p1 : Int) (y1 : (Int × Int)) : (Int × Int) ⊕ (Int × Int) :=
  (cond (decide (y1.1 < (((List.length (List.drop (Int.toNat (1 : Int)) p0)) : Nat) : Int))) (Sum.inl ((IntKind.i64.wrap (y1.1 + (1 : Int))), (IntKind.i64.wrap (y1.2 + (IntKind.i64.wrap ((IntKind.i64.wrap ((2 : Int) * (List.getD (List.drop (Int.toNat (1 : Int)) p0) (Int.toNat y1.1) (0 : Int)))) * (List.getD ((1 : Int) :: ((0 : Int) :: ((-1 : Int) :: ((0 : Int) :: ([] : List Int))))) (Int.toNat (Int.tmod (IntKind.i64.wrap ((IntKind.i64.wrap (y1.1 + (1 : Int))) * p1)) (4 : Int))) (0 : Int))))))))
    (Sum.inr (y1.2, (0 : Int))))
abbrev sp_gravity_GainAt_0 (p0 : (List Int)) (p1 : Int) (y1 : (Int × Int)) : List Prop := [(((decide (y1.1 < (((List.length (List.drop (Int.toNat (1 : Int)) p0)) : Nat) : Int))) = true) → ((0 : Int) ≤ y1.1)),
    (((decide (y1.1 < (((List.length (List.drop (Int.toNat (1 : Int)) p0)) : Nat) : Int))) = true) → (y1.1 < (((List.length (List.drop (Int.toNat (1 : Int)) p0)) : Nat) : Int))),
    (((decide (y1.1 < (((List.length (List.drop (Int.toNat (1 : Int)) p0)) : Nat) : Int))) = true) → ((0 : Int) ≤ (Int.tmod (IntKind.i64.wrap ((IntKind.i64.wrap (y1.1 + (1 : Int))) * p1)) (4 : Int)))),
    (((decide (y1.1 < (((List.length (List.drop (Int.toNat (1 : Int)) p0)) : Nat) : Int))) = true) → ((Int.tmod (IntKind.i64.wrap ((IntKind.i64.wrap (y1.1 + (1 : Int))) * p1)) (4 : Int)) < (4 : Int)))]
def s_gravity_GainAt (p0 : (List Int)) (p1 : Int) : (Int × Int) :=
  (cond ((v_first ((v_filerr p0) :: ((s_gravity_unless (s_gravity_within p1 (0 : Int) (3 : Int)) (2 : Int)) :: ([] : List Int)))) != (0 : Int)) ((0 : Int), (v_first ((v_filerr p0) :: ((s_gravity_unless (s_gravity_within p1 (0 : Int) (3 : Int)) (2 : Int)) :: ([] : List Int)))))
    (lpv ((0 : Int), (0 : Int)) (st_gravity_GainAt_0 p0 p1) ((0 : Int), (List.getD p0 (Int.toNat (0 : Int)) (0 : Int)))))
abbrev pre_gravity_GainAt (p0 : (List Int)) (p1 : Int) : List Prop := [(lenOk p0),
    ((((v_first ((v_filerr p0) :: ((s_gravity_unless (s_gravity_within p1 (0 : Int) (3 : Int)) (2 : Int)) :: ([] : List Int)))) != (0 : Int)) = false) → ((0 : Int) < (((List.length p0) : Nat) : Int))),
    ((((v_first ((v_filerr p0) :: ((s_gravity_unless (s_gravity_within p1 (0 : Int) (3 : Int)) (2 : Int)) :: ([] : List Int)))) != (0 : Int)) = false) → ((1 : Int) ≤ (((List.length p0) : Nat) : Int))),
    ((((v_first ((v_filerr p0) :: ((s_gravity_unless (s_gravity_within p1 (0 : Int) (3 : Int)) (2 : Int)) :: ([] : List Int)))) != (0 : Int)) = false) → (OkL (st_gravity_GainAt_0 p0 p1) (sp_gravity_GainAt_0 p0 p1) ((0 : Int), (List.getD p0 (Int.toNat (0 : Int)) (0 : Int)))))]
set_option maxHeartbeats 4000000 in
theorem d_gravity_GainAt (p0 : (List Int)) (p1 : Int) (K : (Int × Int) → Prop) (hp : ∀ p ∈ pre_gravity_GainAt p0 p1, p) (h : K (s_gravity_GainAt p0 p1)) : w_gravity_GainAt p0 p1 K := by
  unfold w_gravity_GainAt
  unfold s_gravity_GainAt at h
  obtain ⟨hp0, hp1, hp2, hp3, _⟩ := conj_of hp
  exact ⟨(hp0), (lenOk_of 2 rfl (by decide)), (br' h (fun e0 h => h)
    (fun e0 h => ⟨(hp1 e0), (od rfl), (hp2 e0), (loop_gen (hp3 e0) h (fun y1 k1 hp h => by
  unfold st_gravity_GainAt_0 at h; obtain ⟨hp0, hp1, hp2, hp3, _⟩ := conj_of hp
  exact (br' h (fun e2 h => ⟨(hp0 e2), (hp1 e2), (hp2 e2), (hp3 e2), h⟩)
    (fun e2 h => h))))⟩))⟩
theorem v_cos_neg (x : Int) : v_cos (-x) = v_cos x := by
  unfold v_cos
  have h1 := Int.emod_nonneg x (show (4 : Int) ≠ 0 by decide)
  have h2 := Int.emod_lt_of_pos x (show (0 : Int) < 4 by decide)
  have : x % 4 = 0 ∨ x % 4 = 1 ∨ x % 4 = 2 ∨ x % 4 = 3 := by omega
  rcases this with h | h | h | h
  · rw [h, show -x % 4 = 0 by omega]
  · rw [h, show -x % 4 = 3 by omega]; rfl
  · rw [h, show -x % 4 = 2 by omega]
  · rw [h, show -x % 4 = 1 by omega]; rfl
theorem v_at_neg (f : List Int) (k : Int) : v_at f (-k) = v_at f k := by unfold v_at; rw [Int.natAbs_neg]
/-- The sum of what is the same on both sides. -/
theorem v_sym {g : Int → Int} (hg : ∀ x, g (-x) = g x) (n : Nat) : v_sums (fun j => g ((j : Int) - (n : Int))) 0 (2 * n + 1) = g 0 + v_sums (fun k => 2 * g ((k : Int) + 1)) 0 n := by
  rw [show 2 * n + 1 = n + (n + 1) by omega, v_sums_app, v_sums, v_sums_rev _ n 0]
  rw [v_sums_congr (f := fun k => g (((0 + n - 1 - k : Nat) : Int) - (n : Int))) (g := fun k => g ((k : Int) + 1)) n 0 (fun k _ hk => by rw [← hg]; congr 1; omega)]
  rw [show 0 + n + 1 = 0 + (n + 1) by omega, v_sums_shift, v_sums_congr (f := fun k => g (((k + (n + 1) : Nat) : Int) - (n : Int))) (g := fun k => g ((k : Int) + 1)) n 0 (fun k _ _ => by congr 1; omega)]
  rw [v_sums_mul, show ((0 + n : Nat) : Int) - (n : Int) = 0 by omega]; omega
theorem v_gain_sym {f : List Int} (h1 : 1 ≤ f.length) (q : Int) : v_gain f q = f.getD 0 0 + v_sums (fun k => 2 * (v_cos (((k : Int) + 1) * q) * v_at f ((k : Int) + 1))) 0 (f.length - 1) := by
  have := v_sym (g := fun x => v_cos (x * q) * v_at f x) (fun x => by rw [Int.neg_mul, v_cos_neg, v_at_neg]) (f.length - 1)
  rw [show 2 * (f.length - 1) + 1 = 2 * f.length - 1 by omega] at this
  unfold v_gain
  rw [show ((f.length : Int) - 1) = ((f.length - 1 : Nat) : Int) by omega]
  refine this.trans ?_
  rw [Int.zero_mul]
  show 1 * v_at f 0 + _ = _
  rw [Int.one_mul]; rfl
theorem l_gravity_GainAt (p0 : List Int) (p1 : Int) (h : v_fw p0) (hq : 0 ≤ p1 ∧ p1 ≤ 3) : OkL (st_gravity_GainAt_0 p0 p1) (sp_gravity_GainAt_0 p0 p1) (0, p0.getD 0 0) ∧ lpv (0, 0) (st_gravity_GainAt_0 p0 p1) (0, p0.getD 0 0) = (v_gain p0 p1, 0) := by
  have h1 := h.one
  have h9 := h.nine
  have hdl : (List.drop (Int.toNat 1) p0).length = p0.length - 1 := by rw [List.length_drop]; rfl
  refine for_is (fun i t => (i, t)) 0 (p0.length - 1) (fun j t => t = p0.getD 0 0 + v_sums (fun k => 2 * (v_cos (((k : Int) + 1) * p1) * v_at p0 ((k : Int) + 1))) 0 j) (fun _ _ => (v_gain p0 p1, 0)) (by omega) (by omega) ?_ ?_ _ (by simp [v_sums])
  · intro t ht
    have hd : decide (((p0.length - 1 : Nat) : Int) < ((p0.length - 1 : Nat) : Int)) = false := decide_eq_false (by omega)
    refine ⟨by simp only [sp_gravity_GainAt_0, List.forall_mem_cons, hdl, decide_eq_true_eq]; exact ⟨fun _ => by omega, fun _ => by omega, fun h => absurd h (by omega), fun h => absurd h (by omega), by simp⟩, ?_⟩
    simp only [st_gravity_GainAt_0, hdl, hd, cond_false]
    rw [ht, ← v_gain_sym h1]
  · intro j t _ hj ht
    have hd : decide ((j : Int) < ((p0.length - 1 : Nat) : Int)) = true := decide_eq_true (by omega)
    have hw : IntKind.i64.wrap ((j : Int) + 1) = (j : Int) + 1 := wrap_id (by omega) (by omega)
    have hp : 0 ≤ ((j : Int) + 1) * p1 ∧ ((j : Int) + 1) * p1 ≤ 100 := by
      have : p1 = 0 ∨ p1 = 1 ∨ p1 = 2 ∨ p1 = 3 := by omega
      rcases this with rfl | rfl | rfl | rfl <;> omega
    have hw2 : IntKind.i64.wrap (((j : Int) + 1) * p1) = ((j : Int) + 1) * p1 := wrap_id (by omega) (by omega)
    have hm : Int.tmod (((j : Int) + 1) * p1) 4 = ((j : Int) + 1) * p1 % 4 := Int.tmod_eq_emod_of_nonneg hp.1
    have hat : (List.drop (Int.toNat 1) p0).getD j 0 = v_at p0 ((j : Int) + 1) := by
      rw [gd_drop]; unfold v_at; congr 1
      have : Int.toNat 1 = 1 := rfl
      omega
    refine ⟨?_, .inl ⟨_, ?_, rfl, rfl⟩⟩
    · simp only [sp_gravity_GainAt_0, List.forall_mem_cons, hdl, hw, hw2, hm]
      exact ⟨fun _ => by omega, fun _ => by omega, fun _ => by omega, fun _ => by omega, by simp⟩
    · have ha := h.at ((j : Int) + 1)
      have hc := v_cos_at h (((j : Int) + 1) * p1) ((j : Int) + 1)
      have h0 := h.at 0
      have hb := v_sums_in (f := fun k => 2 * (v_cos (((k : Int) + 1) * p1) * v_at p0 ((k : Int) + 1))) (m := 200000) j 0 (fun k _ _ => by have := v_cos_at h (((k : Int) + 1) * p1) ((k : Int) + 1); omega)
      have h0' : p0.getD 0 0 = v_at p0 0 := rfl
      have e1 : 2 * v_at p0 ((j : Int) + 1) * v_cos (((j : Int) + 1) * p1) = 2 * (v_cos (((j : Int) + 1) * p1) * v_at p0 ((j : Int) + 1)) := by rw [Int.mul_assoc, Int.mul_comm (v_at p0 _)]
      simp only [st_gravity_GainAt_0, hdl, hd, cond_true, hw, hw2, hm, Int.toNat_natCast, hat]
      rw [show (List.getD [1, 0, -1, 0] (((j : Int) + 1) * p1 % 4).toNat 0) = v_cos (((j : Int) + 1) * p1) from rfl, wrap_id (n := 2 * v_at p0 ((j : Int) + 1)) (by omega) (by omega), e1, wrap_id (n := 2 * (v_cos (((j : Int) + 1) * p1) * v_at p0 ((j : Int) + 1))) (by omega) (by omega), ht, h0', v_sums_last, Nat.zero_add, wrap_id (by omega) (by omega), Int.add_assoc]
      rfl
/-- The error of a filter and a quarter. -/
def v_gerr (p0 : List Int) (p1 : Int) : Int := v_first [v_filerr p0, s_gravity_unless (s_gravity_within p1 0 3) 2]
theorem tx_gerr {p0 : List Int} {p1 : Int} (h : v_gerr p0 p1 = 0) : v_fok p0 ∧ 0 ≤ p1 ∧ p1 ≤ 3 := by
  obtain ⟨h1, h⟩ := v_first0 h
  obtain ⟨h2, _⟩ := v_first0 h
  have := tx_unless0' (by decide) h2
  exact ⟨tx_fok h1, tx_within.1 this⟩
abbrev t_gravity_GainAt (p0 : List Int) (p1 : Int) : Int × Int := cond (v_gerr p0 p1 != 0) (0, v_gerr p0 p1) (v_gain p0 p1, 0)
abbrev qre_gravity_GainAt (p0 : List Int) (_ : Int) : List Prop := [lenOk p0]
theorem pp_gravity_GainAt (p0 : List Int) (p1 : Int) (hq : ∀ p ∈ qre_gravity_GainAt p0 p1, p) : ∀ p ∈ pre_gravity_GainAt p0 p1, p := by
  simp only [pre_gravity_GainAt, List.forall_mem_cons]
  have key : (v_gerr p0 p1 != 0) = false → v_fok p0 ∧ 0 ≤ p1 ∧ p1 ≤ 3 := fun h => tx_gerr (bne0' h)
  exact ⟨(conj_of hq).1, fun h => by have := (key h).1.one; omega, fun h => by have := (key h).1.one; omega, fun h => (l_gravity_GainAt p0 p1 (key h).1.tov_fw (key h).2).1, by simp⟩
theorem tt_gravity_GainAt (p0 : List Int) (p1 : Int) (_ : ∀ p ∈ qre_gravity_GainAt p0 p1, p) : s_gravity_GainAt p0 p1 = t_gravity_GainAt p0 p1 := by
  show cond (v_gerr p0 p1 != 0) _ _ = _
  unfold t_gravity_GainAt
  cases h : (v_gerr p0 p1 != 0)
  · obtain ⟨k1, k2⟩ := tx_gerr (bne0' h)
    exact (l_gravity_GainAt p0 p1 k1.tov_fw k2).2
  · rfl

abbrev con_gravity_GainAt : Con := ⟨P_gravity_GainAt, R_gravity_GainAt, fun x => qre_gravity_GainAt x.1 x.2, fun x => t_gravity_GainAt x.1 x.2⟩
theorem ok_gravity_GainAt : ConOk Tryd.prog 74 con_gravity_GainAt := ⟨k_gravity_GainAt, fun x hx => ret_tf (ps := P_gravity_GainAt) (rs := R_gravity_GainAt) (x := x) (y := t_gravity_GainAt x.1 x.2) e_gravity_GainAt hC_gravity_GainAt (tf_of (w_gravity_GainAt_eq x.1 x.2 (fun z => z = t_gravity_GainAt x.1 x.2)) (d_gravity_GainAt x.1 x.2 (fun z => z = t_gravity_GainAt x.1 x.2) (pp_gravity_GainAt x.1 x.2 hx) (tt_gravity_GainAt x.1 x.2 hx)))⟩
/- law05_GravityGains -/
def C_law05_GravityGains : Cons := [(15, [], con_law05_awake), (20, [], con_ref05_FilterErr), (60, [], con_base_Within), (18, [], con_ref05_CopyFilter), (28, [], con_base_CopyRanges), (64, [], con_gravity_Filtered), (17, [], con_gravity_Composed), (22, [], con_base_Ints), (73, [], con_gravity_SumOf), (74, [], con_gravity_GainAt), (65, [], con_base_Size), (61, [], con_base_Mod)]
theorem hC_law05_GravityGains : ConsOk Tryd.prog C_law05_GravityGains := ConsOk.cons ok_law05_awake <| ConsOk.cons ok_ref05_FilterErr <| ConsOk.cons ok_base_Within <| ConsOk.cons ok_ref05_CopyFilter <| ConsOk.cons ok_base_CopyRanges <| ConsOk.cons ok_gravity_Filtered <| ConsOk.cons ok_gravity_Composed <| ConsOk.cons ok_base_Ints <| ConsOk.cons ok_gravity_SumOf <| ConsOk.cons ok_gravity_GainAt <| ConsOk.cons ok_base_Size <| ConsOk.cons ok_base_Mod <| ConsOk.nil
abbrev q9_law05_GravityGains (p0 : (List Int)) (p1 : (List Int)) := (t_gravity_Composed (s_ref05_CopyFilter p0) (s_ref05_CopyFilter p1))
abbrev q4_law05_GravityGains (p0 : (List Int)) (p1 : (List Int)) := ((q9_law05_GravityGains p0 p1).2 != (t_gravity_Composed (s_ref05_CopyFilter p1) (s_ref05_CopyFilter p0)).2)
abbrev q0_law05_GravityGains (p0 : (List Int)) (p1 : (List Int)) := (cond (q4_law05_GravityGains p0 p1) true (!(decide ((q9_law05_GravityGains p0 p1).1 = (t_gravity_Composed (s_ref05_CopyFilter p1) (s_ref05_CopyFilter p0)).1))))
abbrev q11_law05_GravityGains (p0 : (List Int)) (y7 : Int) := (cond ((s_gravity_SumOf (s_ref05_CopyFilter p0)).2 != zz0) true ((t_gravity_GainAt (s_ref05_CopyFilter p0) y7).2 != zz0))
abbrev q1_law05_GravityGains (p0 : (List Int)) (p1 : (List Int)) (y7 : Int) := (cond (q11_law05_GravityGains p0 y7) true ((t_gravity_GainAt (s_ref05_CopyFilter p1) y7).2 != zz0))
abbrev q2_law05_GravityGains (p0 : (List Int)) (p1 : (List Int)) := (cond (q0_law05_GravityGains p0 p1) true (cond ((q9_law05_GravityGains p0 p1).2 != zz0) ((q9_law05_GravityGains p0 p1).2 != (8 : Int)) false))
abbrev q3_law05_GravityGains (p0 : (List Int)) (p1 : (List Int)) (p2 : (Int × (Int × Int))) := (cond (cond ((v_filerr p0) != zz0) true ((v_filerr p1) != zz0)) true (!(s_base_Within p2.2.2 zz0 (40 : Int))))
abbrev q5_law05_GravityGains (p0 : (List Int)) (y7 : Int) := (cond (y7 == zz0) ((t_gravity_GainAt (s_ref05_CopyFilter p0) y7).1 != (s_gravity_SumOf (s_ref05_CopyFilter p0)).1) false)
abbrev q6_law05_GravityGains (p0 : (List Int)) (p1 : (List Int)) (y7 : Int) := ((t_gravity_GainAt (s_ref05_CopyFilter (q9_law05_GravityGains p0 p1).1) y7).2 != zz0)
abbrev q7_law05_GravityGains (p0 : (List Int)) (y1 : (Int × (List (Int × Int)))) := (((t_gravity_Filtered (s_ref05_CopyFilter p0) y1.2).2 != zz0) = ((t_gravity_Filtered (s_ref05_CopyFilter p0) y1.2).2 != zz0))
abbrev q8_law05_GravityGains (p0 : (List Int)) (p1 : (List Int)) (p2 : (Int × (Int × Int))) := (cond (q3_law05_GravityGains p0 p1 p2) true (!(s_base_Within p2.1 (-1000 : Int) (1000 : Int))))
abbrev q10_law05_GravityGains (p0 : (List Int)) (y7 : Int) := (!(s_base_Within (t_gravity_GainAt (s_ref05_CopyFilter p0) y7).1 (-2000000 : Int) (2000000 : Int)))
abbrev q12_law05_GravityGains (p0 : (List Int)) (p1 : (List Int)) := ((cond ((v_filerr p0) != zz0) true ((v_filerr p1) != zz0)) = (cond ((v_filerr p0) != zz0) true ((v_filerr p1) != zz0)))
abbrev q13_law05_GravityGains (p0 : (List Int)) (p1 : (List Int)) := ((!(q2_law05_GravityGains p0 p1)) && ((q9_law05_GravityGains p0 p1).2 == zz0))
abbrev q14_law05_GravityGains (p0 : (List Int)) (y1 : (Int × (List (Int × Int)))) := (((t_gravity_Filtered (s_ref05_CopyFilter p0) y1.2).2 != zz0) = false)
def w_law05_GravityGains (p0 : (List Int)) (p1 : (List Int)) (p2 : (Int × (Int × Int))) (K : Bool → Prop) : Prop :=
 ((((!(s_law05_awake)) = true) →
  (K false)) ∧
  (((!(s_law05_awake)) = false) →
  (((((v_filerr p0) != zz0) = false) →
    (((v_filerr p0) != zz0) = ((v_filerr p0) != zz0))) ∧
    (((((v_filerr p0) != zz0) = false) →
    (((v_filerr p0) != zz0) = ((v_filerr p0) != zz0))) ∧
    ((((v_filerr p0) != zz0) = ((v_filerr p0) != zz0)) ∧
    ((((cond ((v_filerr p0) != zz0) true ((v_filerr p1) != zz0)) = false) →
    (q12_law05_GravityGains p0 p1)) ∧
    ((((cond ((v_filerr p0) != zz0) true ((v_filerr p1) != zz0)) = false) →
    (q12_law05_GravityGains p0 p1)) ∧
    ((((cond ((v_filerr p0) != zz0) true ((v_filerr p1) != zz0)) = false) →
    (q12_law05_GravityGains p0 p1)) ∧
    ((q12_law05_GravityGains p0 p1) ∧
    ((((q3_law05_GravityGains p0 p1 p2) = false) →
    ((q3_law05_GravityGains p0 p1 p2) = (q3_law05_GravityGains p0 p1 p2))) ∧
    ((((q3_law05_GravityGains p0 p1 p2) = false) →
    ((q3_law05_GravityGains p0 p1 p2) = (q3_law05_GravityGains p0 p1 p2))) ∧
    ((((q3_law05_GravityGains p0 p1 p2) = false) →
    ((q3_law05_GravityGains p0 p1 p2) = (q3_law05_GravityGains p0 p1 p2))) ∧
    (((q3_law05_GravityGains p0 p1 p2) = (q3_law05_GravityGains p0 p1 p2)) ∧
    ((((q8_law05_GravityGains p0 p1 p2) = false) →
    ((q8_law05_GravityGains p0 p1 p2) = (q8_law05_GravityGains p0 p1 p2))) ∧
    ((((q8_law05_GravityGains p0 p1 p2) = false) →
    ((q8_law05_GravityGains p0 p1 p2) = (q8_law05_GravityGains p0 p1 p2))) ∧
    ((((q8_law05_GravityGains p0 p1 p2) = false) →
    ((q8_law05_GravityGains p0 p1 p2) = (q8_law05_GravityGains p0 p1 p2))) ∧
    (((q8_law05_GravityGains p0 p1 p2) = (q8_law05_GravityGains p0 p1 p2)) ∧
    ((((cond (q8_law05_GravityGains p0 p1 p2) true (!(s_base_Within p2.2.1 (-1000 : Int) (1000 : Int)))) = true) →
    (K true)) ∧
    (((cond (q8_law05_GravityGains p0 p1 p2) true (!(s_base_Within p2.2.1 (-1000 : Int) (1000 : Int)))) = false) →
    (∃ n0, (loopP (fun (y1 : (Int × (List (Int × Int)))) k2 =>
        ((((decide (y1.1 < p2.2.2)) = true) →
        (((((List.length y1.2) + (List.length (((wi (p2.1 + (wi (y1.1 * p2.2.1)))), (wi (p2.1 + (wi (y1.1 * p2.2.1))))) :: ([] : List (Int × Int))))) * 16) ≤ 140737488355328) ∧
          (k2 ((wi (y1.1 + zz1)), (y1.2 ++ (((wi (p2.1 + (wi (y1.1 * p2.2.1)))), (wi (p2.1 + (wi (y1.1 * p2.2.1))))) :: ([] : List (Int × Int)))))))) ∧
        (((decide (y1.1 < p2.2.2)) = false) →
        (((List.length p0) ≤ 1000000) ∧
          (((List.length y1.2) ≤ 1000000) ∧
          ((lenOk (s_ref05_CopyFilter p0)) ∧
          (((q14_law05_GravityGains p0 y1) →
          (q7_law05_GravityGains p0 y1)) ∧
          (((q14_law05_GravityGains p0 y1) →
          (q7_law05_GravityGains p0 y1)) ∧
          (((q14_law05_GravityGains p0 y1) →
          (q7_law05_GravityGains p0 y1)) ∧
          (((q14_law05_GravityGains p0 y1) →
          (q7_law05_GravityGains p0 y1)) ∧
          (((q14_law05_GravityGains p0 y1) →
          (q7_law05_GravityGains p0 y1)) ∧
          (((q14_law05_GravityGains p0 y1) →
          (q7_law05_GravityGains p0 y1)) ∧
          (((q14_law05_GravityGains p0 y1) →
          (q7_law05_GravityGains p0 y1)) ∧
          (((q14_law05_GravityGains p0 y1) →
          (q7_law05_GravityGains p0 y1)) ∧
          ((q7_law05_GravityGains p0 y1) ∧
          ((((cond ((t_gravity_Filtered (s_ref05_CopyFilter p0) y1.2).2 != zz0) true ((((List.length (t_gravity_Filtered (s_ref05_CopyFilter p0) y1.2).1) : Nat) : Int) != (max zz0 (wi (p2.2.2 - (wi (zz2 * (wi ((((List.length p0) : Nat) : Int) - zz1))))))))) = true) →
          (K false)) ∧
          (((cond ((t_gravity_Filtered (s_ref05_CopyFilter p0) y1.2).2 != zz0) true ((((List.length (t_gravity_Filtered (s_ref05_CopyFilter p0) y1.2).1) : Nat) : Int) != (max zz0 (wi (p2.2.2 - (wi (zz2 * (wi ((((List.length p0) : Nat) : Int) - zz1))))))))) = false) →
          (∃ n3, (loopP (fun (y4 : Int) k5 =>
              ((((decide (y4 < (((List.length (t_gravity_Filtered (s_ref05_CopyFilter p0) y1.2).1) : Nat) : Int))) = true) →
              ((zz0 ≤ y4) ∧
                ((y4 < (((List.length (t_gravity_Filtered (s_ref05_CopyFilter p0) y1.2).1) : Nat) : Int)) ∧
                ((zz0 ≤ (wi (y4 + (wi ((((List.length p0) : Nat) : Int) - zz1))))) ∧
                (((wi (y4 + (wi ((((List.length p0) : Nat) : Int) - zz1)))) < (((List.length y1.2) : Nat) : Int)) ∧
                ((((!(((List.getD (t_gravity_Filtered (s_ref05_CopyFilter p0) y1.2).1 (Int.toNat y4) (zz0, zz0)).1 == (List.getD y1.2 (Int.toNat (wi (y4 + (wi ((((List.length p0) : Nat) : Int) - zz1))))) (zz0, zz0)).1) && (((List.getD (t_gravity_Filtered (s_ref05_CopyFilter p0) y1.2).1 (Int.toNat y4) (zz0, zz0)).2 == (List.getD y1.2 (Int.toNat (wi (y4 + (wi ((((List.length p0) : Nat) : Int) - zz1))))) (zz0, zz0)).2) && true))) = true) →
                (K false)) ∧
                (((!(((List.getD (t_gravity_Filtered (s_ref05_CopyFilter p0) y1.2).1 (Int.toNat y4) (zz0, zz0)).1 == (List.getD y1.2 (Int.toNat (wi (y4 + (wi ((((List.length p0) : Nat) : Int) - zz1))))) (zz0, zz0)).1) && (((List.getD (t_gravity_Filtered (s_ref05_CopyFilter p0) y1.2).1 (Int.toNat y4) (zz0, zz0)).2 == (List.getD y1.2 (Int.toNat (wi (y4 + (wi ((((List.length p0) : Nat) : Int) - zz1))))) (zz0, zz0)).2) && true))) = false) →
                (k5 (wi (y4 + zz1)))))))))) ∧
              (((decide (y4 < (((List.length (t_gravity_Filtered (s_ref05_CopyFilter p0) y1.2).1) : Nat) : Int))) = false) →
              (((List.length p0) ≤ 1000000) ∧
                (((List.length p1) ≤ 1000000) ∧
                (((List.length (s_ref05_CopyFilter p0)) ≤ 1000000) ∧
                (((List.length (s_ref05_CopyFilter p1)) ≤ 1000000) ∧
                (((List.length p1) ≤ 1000000) ∧
                (((List.length p0) ≤ 1000000) ∧
                (((List.length (s_ref05_CopyFilter p1)) ≤ 1000000) ∧
                (((List.length (s_ref05_CopyFilter p0)) ≤ 1000000) ∧
                ((((q4_law05_GravityGains p0 p1) = false) →
                ((q4_law05_GravityGains p0 p1) = (q4_law05_GravityGains p0 p1))) ∧
                ((((q4_law05_GravityGains p0 p1) = false) →
                ((q4_law05_GravityGains p0 p1) = (q4_law05_GravityGains p0 p1))) ∧
                ((((q4_law05_GravityGains p0 p1) = false) →
                ((q4_law05_GravityGains p0 p1) = (q4_law05_GravityGains p0 p1))) ∧
                ((((q4_law05_GravityGains p0 p1) = false) →
                ((q4_law05_GravityGains p0 p1) = (q4_law05_GravityGains p0 p1))) ∧
                ((((q4_law05_GravityGains p0 p1) = false) →
                (lenOk (q9_law05_GravityGains p0 p1).1)) ∧
                ((((q4_law05_GravityGains p0 p1) = false) →
                ((q4_law05_GravityGains p0 p1) = (q4_law05_GravityGains p0 p1))) ∧
                (((q4_law05_GravityGains p0 p1) = (q4_law05_GravityGains p0 p1)) ∧
                ((((q0_law05_GravityGains p0 p1) = false) →
                ((q0_law05_GravityGains p0 p1) = (q0_law05_GravityGains p0 p1))) ∧
                ((((q0_law05_GravityGains p0 p1) = false) →
                ((q0_law05_GravityGains p0 p1) = (q0_law05_GravityGains p0 p1))) ∧
                (((((!(q0_law05_GravityGains p0 p1)) && ((q9_law05_GravityGains p0 p1).2 != zz0)) = true) →
                (((!(q0_law05_GravityGains p0 p1)) && ((q9_law05_GravityGains p0 p1).2 != zz0)) = ((!(q0_law05_GravityGains p0 p1)) && ((q9_law05_GravityGains p0 p1).2 != zz0)))) ∧
                ((((q0_law05_GravityGains p0 p1) = false) →
                ((q0_law05_GravityGains p0 p1) = (q0_law05_GravityGains p0 p1))) ∧
                ((((q0_law05_GravityGains p0 p1) = false) →
                (((!(q0_law05_GravityGains p0 p1)) && ((q9_law05_GravityGains p0 p1).2 != zz0)) = ((q9_law05_GravityGains p0 p1).2 != zz0))) ∧
                (((q0_law05_GravityGains p0 p1) = (q0_law05_GravityGains p0 p1)) ∧
                ((((q2_law05_GravityGains p0 p1) = false) →
                ((q2_law05_GravityGains p0 p1) = (q2_law05_GravityGains p0 p1))) ∧
                ((((q2_law05_GravityGains p0 p1) = false) →
                ((q2_law05_GravityGains p0 p1) = (q2_law05_GravityGains p0 p1))) ∧
                ((((q13_law05_GravityGains p0 p1) = true) →
                ((q13_law05_GravityGains p0 p1) = (q13_law05_GravityGains p0 p1))) ∧
                ((((q13_law05_GravityGains p0 p1) = true) →
                ((q13_law05_GravityGains p0 p1) = (q13_law05_GravityGains p0 p1))) ∧
                ((((q2_law05_GravityGains p0 p1) = false) →
                ((q2_law05_GravityGains p0 p1) = (q2_law05_GravityGains p0 p1))) ∧
                ((((q2_law05_GravityGains p0 p1) = false) →
                ((q13_law05_GravityGains p0 p1) = ((q9_law05_GravityGains p0 p1).2 == zz0))) ∧
                (((q2_law05_GravityGains p0 p1) = (q2_law05_GravityGains p0 p1)) ∧
                ((((cond (q2_law05_GravityGains p0 p1) true (cond ((q9_law05_GravityGains p0 p1).2 == zz0) ((v_filerr (q9_law05_GravityGains p0 p1).1) != zz0) false)) = true) →
                (K false)) ∧
                (((cond (q2_law05_GravityGains p0 p1) true (cond ((q9_law05_GravityGains p0 p1).2 == zz0) ((v_filerr (q9_law05_GravityGains p0 p1).1) != zz0) false)) = false) →
                (((List.length p0) ≤ 1000000) ∧
                  ((lenOk (s_ref05_CopyFilter p0)) ∧
                  (((((v_filerr (s_ref05_CopyFilter p0)) != zz0) = false) →
                  (v_fw (s_ref05_CopyFilter p0))) ∧
                  (∃ n6, (loopP (fun (y7 : Int) k8 =>
                    ((((decide (y7 < (4 : Int))) = true) →
                    (((List.length p0) ≤ 1000000) ∧
                      ((lenOk (s_ref05_CopyFilter p0)) ∧
                      (((List.length p1) ≤ 1000000) ∧
                      ((lenOk (s_ref05_CopyFilter p1)) ∧
                      (((List.length p0) ≤ 1000000) ∧
                      ((lenOk (s_ref05_CopyFilter p0)) ∧
                      (((((s_gravity_SumOf (s_ref05_CopyFilter p0)).2 != zz0) = false) →
                      (((s_gravity_SumOf (s_ref05_CopyFilter p0)).2 != zz0) = ((s_gravity_SumOf (s_ref05_CopyFilter p0)).2 != zz0))) ∧
                      ((((s_gravity_SumOf (s_ref05_CopyFilter p0)).2 != zz0) = ((s_gravity_SumOf (s_ref05_CopyFilter p0)).2 != zz0)) ∧
                      ((((q11_law05_GravityGains p0 y7) = false) →
                      ((q11_law05_GravityGains p0 y7) = (q11_law05_GravityGains p0 y7))) ∧
                      (((q11_law05_GravityGains p0 y7) = (q11_law05_GravityGains p0 y7)) ∧
                      ((((q1_law05_GravityGains p0 p1 y7) = false) →
                      ((q1_law05_GravityGains p0 p1 y7) = (q1_law05_GravityGains p0 p1 y7))) ∧
                      (((q1_law05_GravityGains p0 p1 y7) = (q1_law05_GravityGains p0 p1 y7)) ∧
                      ((((cond (q1_law05_GravityGains p0 p1 y7) true ((t_gravity_GainAt (s_ref05_CopyFilter p0) (Int.tmod (wi ((4 : Int) - y7)) (4 : Int))).2 != zz0)) = false) →
                      ((cond (q1_law05_GravityGains p0 p1 y7) true ((t_gravity_GainAt (s_ref05_CopyFilter p0) (Int.tmod (wi ((4 : Int) - y7)) (4 : Int))).2 != zz0)) = (cond (q1_law05_GravityGains p0 p1 y7) true ((t_gravity_GainAt (s_ref05_CopyFilter p0) (Int.tmod (wi ((4 : Int) - y7)) (4 : Int))).2 != zz0)))) ∧
                      ((((cond (q1_law05_GravityGains p0 p1 y7) true ((t_gravity_GainAt (s_ref05_CopyFilter p0) (Int.tmod (wi ((4 : Int) - y7)) (4 : Int))).2 != zz0)) = false) →
                      ((cond (q1_law05_GravityGains p0 p1 y7) true ((t_gravity_GainAt (s_ref05_CopyFilter p0) (Int.tmod (wi ((4 : Int) - y7)) (4 : Int))).2 != zz0)) = (cond (q1_law05_GravityGains p0 p1 y7) true ((t_gravity_GainAt (s_ref05_CopyFilter p0) (Int.tmod (wi ((4 : Int) - y7)) (4 : Int))).2 != zz0)))) ∧
                      (((cond (q1_law05_GravityGains p0 p1 y7) true ((t_gravity_GainAt (s_ref05_CopyFilter p0) (Int.tmod (wi ((4 : Int) - y7)) (4 : Int))).2 != zz0)) = (cond (q1_law05_GravityGains p0 p1 y7) true ((t_gravity_GainAt (s_ref05_CopyFilter p0) (Int.tmod (wi ((4 : Int) - y7)) (4 : Int))).2 != zz0))) ∧
                      ((((cond (cond (q1_law05_GravityGains p0 p1 y7) true ((t_gravity_GainAt (s_ref05_CopyFilter p0) (Int.tmod (wi ((4 : Int) - y7)) (4 : Int))).2 != zz0)) true ((t_gravity_GainAt (s_ref05_CopyFilter p0) (Int.tmod (wi ((4 : Int) - y7)) (4 : Int))).1 != (t_gravity_GainAt (s_ref05_CopyFilter p0) y7).1)) = false) →
                      ((cond (cond (q1_law05_GravityGains p0 p1 y7) true ((t_gravity_GainAt (s_ref05_CopyFilter p0) (Int.tmod (wi ((4 : Int) - y7)) (4 : Int))).2 != zz0)) true ((t_gravity_GainAt (s_ref05_CopyFilter p0) (Int.tmod (wi ((4 : Int) - y7)) (4 : Int))).1 != (t_gravity_GainAt (s_ref05_CopyFilter p0) y7).1)) = (cond (cond (q1_law05_GravityGains p0 p1 y7) true ((t_gravity_GainAt (s_ref05_CopyFilter p0) (Int.tmod (wi ((4 : Int) - y7)) (4 : Int))).2 != zz0)) true ((t_gravity_GainAt (s_ref05_CopyFilter p0) (Int.tmod (wi ((4 : Int) - y7)) (4 : Int))).1 != (t_gravity_GainAt (s_ref05_CopyFilter p0) y7).1)))) ∧
                      ((((cond (cond (q1_law05_GravityGains p0 p1 y7) true ((t_gravity_GainAt (s_ref05_CopyFilter p0) (Int.tmod (wi ((4 : Int) - y7)) (4 : Int))).2 != zz0)) true ((t_gravity_GainAt (s_ref05_CopyFilter p0) (Int.tmod (wi ((4 : Int) - y7)) (4 : Int))).1 != (t_gravity_GainAt (s_ref05_CopyFilter p0) y7).1)) = false) →
                      ((cond (cond (q1_law05_GravityGains p0 p1 y7) true ((t_gravity_GainAt (s_ref05_CopyFilter p0) (Int.tmod (wi ((4 : Int) - y7)) (4 : Int))).2 != zz0)) true ((t_gravity_GainAt (s_ref05_CopyFilter p0) (Int.tmod (wi ((4 : Int) - y7)) (4 : Int))).1 != (t_gravity_GainAt (s_ref05_CopyFilter p0) y7).1)) = (cond (cond (q1_law05_GravityGains p0 p1 y7) true ((t_gravity_GainAt (s_ref05_CopyFilter p0) (Int.tmod (wi ((4 : Int) - y7)) (4 : Int))).2 != zz0)) true ((t_gravity_GainAt (s_ref05_CopyFilter p0) (Int.tmod (wi ((4 : Int) - y7)) (4 : Int))).1 != (t_gravity_GainAt (s_ref05_CopyFilter p0) y7).1)))) ∧
                      (((((!(cond (cond (q1_law05_GravityGains p0 p1 y7) true ((t_gravity_GainAt (s_ref05_CopyFilter p0) (Int.tmod (wi ((4 : Int) - y7)) (4 : Int))).2 != zz0)) true ((t_gravity_GainAt (s_ref05_CopyFilter p0) (Int.tmod (wi ((4 : Int) - y7)) (4 : Int))).1 != (t_gravity_GainAt (s_ref05_CopyFilter p0) y7).1))) && (y7 == zz0)) = true) →
                      (((!(cond (cond (q1_law05_GravityGains p0 p1 y7) true ((t_gravity_GainAt (s_ref05_CopyFilter p0) (Int.tmod (wi ((4 : Int) - y7)) (4 : Int))).2 != zz0)) true ((t_gravity_GainAt (s_ref05_CopyFilter p0) (Int.tmod (wi ((4 : Int) - y7)) (4 : Int))).1 != (t_gravity_GainAt (s_ref05_CopyFilter p0) y7).1))) && (y7 == zz0)) = ((!(cond (cond (q1_law05_GravityGains p0 p1 y7) true ((t_gravity_GainAt (s_ref05_CopyFilter p0) (Int.tmod (wi ((4 : Int) - y7)) (4 : Int))).2 != zz0)) true ((t_gravity_GainAt (s_ref05_CopyFilter p0) (Int.tmod (wi ((4 : Int) - y7)) (4 : Int))).1 != (t_gravity_GainAt (s_ref05_CopyFilter p0) y7).1))) && (y7 == zz0)))) ∧
                      (((((!(cond (cond (q1_law05_GravityGains p0 p1 y7) true ((t_gravity_GainAt (s_ref05_CopyFilter p0) (Int.tmod (wi ((4 : Int) - y7)) (4 : Int))).2 != zz0)) true ((t_gravity_GainAt (s_ref05_CopyFilter p0) (Int.tmod (wi ((4 : Int) - y7)) (4 : Int))).1 != (t_gravity_GainAt (s_ref05_CopyFilter p0) y7).1))) && (y7 == zz0)) = true) →
                      (((!(cond (cond (q1_law05_GravityGains p0 p1 y7) true ((t_gravity_GainAt (s_ref05_CopyFilter p0) (Int.tmod (wi ((4 : Int) - y7)) (4 : Int))).2 != zz0)) true ((t_gravity_GainAt (s_ref05_CopyFilter p0) (Int.tmod (wi ((4 : Int) - y7)) (4 : Int))).1 != (t_gravity_GainAt (s_ref05_CopyFilter p0) y7).1))) && (y7 == zz0)) = ((!(cond (cond (q1_law05_GravityGains p0 p1 y7) true ((t_gravity_GainAt (s_ref05_CopyFilter p0) (Int.tmod (wi ((4 : Int) - y7)) (4 : Int))).2 != zz0)) true ((t_gravity_GainAt (s_ref05_CopyFilter p0) (Int.tmod (wi ((4 : Int) - y7)) (4 : Int))).1 != (t_gravity_GainAt (s_ref05_CopyFilter p0) y7).1))) && (y7 == zz0)))) ∧
                      ((((cond (cond (q1_law05_GravityGains p0 p1 y7) true ((t_gravity_GainAt (s_ref05_CopyFilter p0) (Int.tmod (wi ((4 : Int) - y7)) (4 : Int))).2 != zz0)) true ((t_gravity_GainAt (s_ref05_CopyFilter p0) (Int.tmod (wi ((4 : Int) - y7)) (4 : Int))).1 != (t_gravity_GainAt (s_ref05_CopyFilter p0) y7).1)) = false) →
                      ((cond (cond (q1_law05_GravityGains p0 p1 y7) true ((t_gravity_GainAt (s_ref05_CopyFilter p0) (Int.tmod (wi ((4 : Int) - y7)) (4 : Int))).2 != zz0)) true ((t_gravity_GainAt (s_ref05_CopyFilter p0) (Int.tmod (wi ((4 : Int) - y7)) (4 : Int))).1 != (t_gravity_GainAt (s_ref05_CopyFilter p0) y7).1)) = (cond (cond (q1_law05_GravityGains p0 p1 y7) true ((t_gravity_GainAt (s_ref05_CopyFilter p0) (Int.tmod (wi ((4 : Int) - y7)) (4 : Int))).2 != zz0)) true ((t_gravity_GainAt (s_ref05_CopyFilter p0) (Int.tmod (wi ((4 : Int) - y7)) (4 : Int))).1 != (t_gravity_GainAt (s_ref05_CopyFilter p0) y7).1)))) ∧
                      ((((cond (cond (q1_law05_GravityGains p0 p1 y7) true ((t_gravity_GainAt (s_ref05_CopyFilter p0) (Int.tmod (wi ((4 : Int) - y7)) (4 : Int))).2 != zz0)) true ((t_gravity_GainAt (s_ref05_CopyFilter p0) (Int.tmod (wi ((4 : Int) - y7)) (4 : Int))).1 != (t_gravity_GainAt (s_ref05_CopyFilter p0) y7).1)) = false) →
                      (((!(cond (cond (q1_law05_GravityGains p0 p1 y7) true ((t_gravity_GainAt (s_ref05_CopyFilter p0) (Int.tmod (wi ((4 : Int) - y7)) (4 : Int))).2 != zz0)) true ((t_gravity_GainAt (s_ref05_CopyFilter p0) (Int.tmod (wi ((4 : Int) - y7)) (4 : Int))).1 != (t_gravity_GainAt (s_ref05_CopyFilter p0) y7).1))) && (y7 == zz0)) = (y7 == zz0))) ∧
                      (((cond (cond (q1_law05_GravityGains p0 p1 y7) true ((t_gravity_GainAt (s_ref05_CopyFilter p0) (Int.tmod (wi ((4 : Int) - y7)) (4 : Int))).2 != zz0)) true ((t_gravity_GainAt (s_ref05_CopyFilter p0) (Int.tmod (wi ((4 : Int) - y7)) (4 : Int))).1 != (t_gravity_GainAt (s_ref05_CopyFilter p0) y7).1)) = (cond (cond (q1_law05_GravityGains p0 p1 y7) true ((t_gravity_GainAt (s_ref05_CopyFilter p0) (Int.tmod (wi ((4 : Int) - y7)) (4 : Int))).2 != zz0)) true ((t_gravity_GainAt (s_ref05_CopyFilter p0) (Int.tmod (wi ((4 : Int) - y7)) (4 : Int))).1 != (t_gravity_GainAt (s_ref05_CopyFilter p0) y7).1))) ∧
                      ((((cond (cond (cond (q1_law05_GravityGains p0 p1 y7) true ((t_gravity_GainAt (s_ref05_CopyFilter p0) (Int.tmod (wi ((4 : Int) - y7)) (4 : Int))).2 != zz0)) true ((t_gravity_GainAt (s_ref05_CopyFilter p0) (Int.tmod (wi ((4 : Int) - y7)) (4 : Int))).1 != (t_gravity_GainAt (s_ref05_CopyFilter p0) y7).1)) true (q5_law05_GravityGains p0 y7)) = false) →
                      ((cond (cond (cond (q1_law05_GravityGains p0 p1 y7) true ((t_gravity_GainAt (s_ref05_CopyFilter p0) (Int.tmod (wi ((4 : Int) - y7)) (4 : Int))).2 != zz0)) true ((t_gravity_GainAt (s_ref05_CopyFilter p0) (Int.tmod (wi ((4 : Int) - y7)) (4 : Int))).1 != (t_gravity_GainAt (s_ref05_CopyFilter p0) y7).1)) true (q5_law05_GravityGains p0 y7)) = (cond (cond (cond (q1_law05_GravityGains p0 p1 y7) true ((t_gravity_GainAt (s_ref05_CopyFilter p0) (Int.tmod (wi ((4 : Int) - y7)) (4 : Int))).2 != zz0)) true ((t_gravity_GainAt (s_ref05_CopyFilter p0) (Int.tmod (wi ((4 : Int) - y7)) (4 : Int))).1 != (t_gravity_GainAt (s_ref05_CopyFilter p0) y7).1)) true (q5_law05_GravityGains p0 y7)))) ∧
                      ((((cond (cond (cond (q1_law05_GravityGains p0 p1 y7) true ((t_gravity_GainAt (s_ref05_CopyFilter p0) (Int.tmod (wi ((4 : Int) - y7)) (4 : Int))).2 != zz0)) true ((t_gravity_GainAt (s_ref05_CopyFilter p0) (Int.tmod (wi ((4 : Int) - y7)) (4 : Int))).1 != (t_gravity_GainAt (s_ref05_CopyFilter p0) y7).1)) true (q5_law05_GravityGains p0 y7)) = false) →
                      ((cond (cond (cond (q1_law05_GravityGains p0 p1 y7) true ((t_gravity_GainAt (s_ref05_CopyFilter p0) (Int.tmod (wi ((4 : Int) - y7)) (4 : Int))).2 != zz0)) true ((t_gravity_GainAt (s_ref05_CopyFilter p0) (Int.tmod (wi ((4 : Int) - y7)) (4 : Int))).1 != (t_gravity_GainAt (s_ref05_CopyFilter p0) y7).1)) true (q5_law05_GravityGains p0 y7)) = (cond (cond (cond (q1_law05_GravityGains p0 p1 y7) true ((t_gravity_GainAt (s_ref05_CopyFilter p0) (Int.tmod (wi ((4 : Int) - y7)) (4 : Int))).2 != zz0)) true ((t_gravity_GainAt (s_ref05_CopyFilter p0) (Int.tmod (wi ((4 : Int) - y7)) (4 : Int))).1 != (t_gravity_GainAt (s_ref05_CopyFilter p0) y7).1)) true (q5_law05_GravityGains p0 y7)))) ∧
                      (((cond (cond (cond (q1_law05_GravityGains p0 p1 y7) true ((t_gravity_GainAt (s_ref05_CopyFilter p0) (Int.tmod (wi ((4 : Int) - y7)) (4 : Int))).2 != zz0)) true ((t_gravity_GainAt (s_ref05_CopyFilter p0) (Int.tmod (wi ((4 : Int) - y7)) (4 : Int))).1 != (t_gravity_GainAt (s_ref05_CopyFilter p0) y7).1)) true (q5_law05_GravityGains p0 y7)) = (cond (cond (cond (q1_law05_GravityGains p0 p1 y7) true ((t_gravity_GainAt (s_ref05_CopyFilter p0) (Int.tmod (wi ((4 : Int) - y7)) (4 : Int))).2 != zz0)) true ((t_gravity_GainAt (s_ref05_CopyFilter p0) (Int.tmod (wi ((4 : Int) - y7)) (4 : Int))).1 != (t_gravity_GainAt (s_ref05_CopyFilter p0) y7).1)) true (q5_law05_GravityGains p0 y7))) ∧
                      ((((cond (cond (cond (cond (q1_law05_GravityGains p0 p1 y7) true ((t_gravity_GainAt (s_ref05_CopyFilter p0) (Int.tmod (wi ((4 : Int) - y7)) (4 : Int))).2 != zz0)) true ((t_gravity_GainAt (s_ref05_CopyFilter p0) (Int.tmod (wi ((4 : Int) - y7)) (4 : Int))).1 != (t_gravity_GainAt (s_ref05_CopyFilter p0) y7).1)) true (q5_law05_GravityGains p0 y7)) true (q10_law05_GravityGains p0 y7)) = false) →
                      ((cond (cond (cond (cond (q1_law05_GravityGains p0 p1 y7) true ((t_gravity_GainAt (s_ref05_CopyFilter p0) (Int.tmod (wi ((4 : Int) - y7)) (4 : Int))).2 != zz0)) true ((t_gravity_GainAt (s_ref05_CopyFilter p0) (Int.tmod (wi ((4 : Int) - y7)) (4 : Int))).1 != (t_gravity_GainAt (s_ref05_CopyFilter p0) y7).1)) true (q5_law05_GravityGains p0 y7)) true (q10_law05_GravityGains p0 y7)) = (cond (cond (cond (cond (q1_law05_GravityGains p0 p1 y7) true ((t_gravity_GainAt (s_ref05_CopyFilter p0) (Int.tmod (wi ((4 : Int) - y7)) (4 : Int))).2 != zz0)) true ((t_gravity_GainAt (s_ref05_CopyFilter p0) (Int.tmod (wi ((4 : Int) - y7)) (4 : Int))).1 != (t_gravity_GainAt (s_ref05_CopyFilter p0) y7).1)) true (q5_law05_GravityGains p0 y7)) true (q10_law05_GravityGains p0 y7)))) ∧
                      ((((cond (cond (cond (cond (q1_law05_GravityGains p0 p1 y7) true ((t_gravity_GainAt (s_ref05_CopyFilter p0) (Int.tmod (wi ((4 : Int) - y7)) (4 : Int))).2 != zz0)) true ((t_gravity_GainAt (s_ref05_CopyFilter p0) (Int.tmod (wi ((4 : Int) - y7)) (4 : Int))).1 != (t_gravity_GainAt (s_ref05_CopyFilter p0) y7).1)) true (q5_law05_GravityGains p0 y7)) true (q10_law05_GravityGains p0 y7)) = false) →
                      ((cond (cond (cond (cond (q1_law05_GravityGains p0 p1 y7) true ((t_gravity_GainAt (s_ref05_CopyFilter p0) (Int.tmod (wi ((4 : Int) - y7)) (4 : Int))).2 != zz0)) true ((t_gravity_GainAt (s_ref05_CopyFilter p0) (Int.tmod (wi ((4 : Int) - y7)) (4 : Int))).1 != (t_gravity_GainAt (s_ref05_CopyFilter p0) y7).1)) true (q5_law05_GravityGains p0 y7)) true (q10_law05_GravityGains p0 y7)) = (cond (cond (cond (cond (q1_law05_GravityGains p0 p1 y7) true ((t_gravity_GainAt (s_ref05_CopyFilter p0) (Int.tmod (wi ((4 : Int) - y7)) (4 : Int))).2 != zz0)) true ((t_gravity_GainAt (s_ref05_CopyFilter p0) (Int.tmod (wi ((4 : Int) - y7)) (4 : Int))).1 != (t_gravity_GainAt (s_ref05_CopyFilter p0) y7).1)) true (q5_law05_GravityGains p0 y7)) true (q10_law05_GravityGains p0 y7)))) ∧
                      (((cond (cond (cond (cond (q1_law05_GravityGains p0 p1 y7) true ((t_gravity_GainAt (s_ref05_CopyFilter p0) (Int.tmod (wi ((4 : Int) - y7)) (4 : Int))).2 != zz0)) true ((t_gravity_GainAt (s_ref05_CopyFilter p0) (Int.tmod (wi ((4 : Int) - y7)) (4 : Int))).1 != (t_gravity_GainAt (s_ref05_CopyFilter p0) y7).1)) true (q5_law05_GravityGains p0 y7)) true (q10_law05_GravityGains p0 y7)) = (cond (cond (cond (cond (q1_law05_GravityGains p0 p1 y7) true ((t_gravity_GainAt (s_ref05_CopyFilter p0) (Int.tmod (wi ((4 : Int) - y7)) (4 : Int))).2 != zz0)) true ((t_gravity_GainAt (s_ref05_CopyFilter p0) (Int.tmod (wi ((4 : Int) - y7)) (4 : Int))).1 != (t_gravity_GainAt (s_ref05_CopyFilter p0) y7).1)) true (q5_law05_GravityGains p0 y7)) true (q10_law05_GravityGains p0 y7))) ∧
                      ((((cond (cond (cond (cond (cond (q1_law05_GravityGains p0 p1 y7) true ((t_gravity_GainAt (s_ref05_CopyFilter p0) (Int.tmod (wi ((4 : Int) - y7)) (4 : Int))).2 != zz0)) true ((t_gravity_GainAt (s_ref05_CopyFilter p0) (Int.tmod (wi ((4 : Int) - y7)) (4 : Int))).1 != (t_gravity_GainAt (s_ref05_CopyFilter p0) y7).1)) true (q5_law05_GravityGains p0 y7)) true (q10_law05_GravityGains p0 y7)) true (!(s_base_Within (t_gravity_GainAt (s_ref05_CopyFilter p1) y7).1 (-2000000 : Int) (2000000 : Int)))) = true) →
                      (K false)) ∧
                      (((cond (cond (cond (cond (cond (q1_law05_GravityGains p0 p1 y7) true ((t_gravity_GainAt (s_ref05_CopyFilter p0) (Int.tmod (wi ((4 : Int) - y7)) (4 : Int))).2 != zz0)) true ((t_gravity_GainAt (s_ref05_CopyFilter p0) (Int.tmod (wi ((4 : Int) - y7)) (4 : Int))).1 != (t_gravity_GainAt (s_ref05_CopyFilter p0) y7).1)) true (q5_law05_GravityGains p0 y7)) true (q10_law05_GravityGains p0 y7)) true (!(s_base_Within (t_gravity_GainAt (s_ref05_CopyFilter p1) y7).1 (-2000000 : Int) (2000000 : Int)))) = false) →
                      (∃ n9, (loopP (fun (y10 : (Int × Int)) k11 =>
                          ((((decide (y10.1 ≤ (wi ((((List.length p0) : Nat) : Int) - zz1)))) = true) →
                          ((zz0 ≤ (s_base_Size y10.1)) ∧
                            (((s_base_Size y10.1) < (((List.length p0) : Nat) : Int)) ∧
                            (((zz0 < (4 : Int)) ∧
                            ((4 : Int) ≤ (1000000000000 : Int))) ∧
                            ((zz0 ≤ ((wi (y10.1 * y7)) % (4 : Int))) ∧
                            ((((wi (y10.1 * y7)) % (4 : Int)) < (((List.length (zz1 :: (zz0 :: ((-1 : Int) :: (zz0 :: ([] : List Int)))))) : Nat) : Int)) ∧
                            (k11 ((wi (y10.1 + zz1)), (wi (y10.2 + (wi ((List.getD p0 (Int.toNat (s_base_Size y10.1)) zz0) * (List.getD (zz1 :: (zz0 :: ((-1 : Int) :: (zz0 :: ([] : List Int))))) (Int.toNat ((wi (y10.1 * y7)) % (4 : Int))) zz0))))))))))))) ∧
                          (((decide (y10.1 ≤ (wi ((((List.length p0) : Nat) : Int) - zz1)))) = false) →
                          ((((y10.2 != (t_gravity_GainAt (s_ref05_CopyFilter p0) y7).1) = true) →
                            (K false)) ∧
                            (((y10.2 != (t_gravity_GainAt (s_ref05_CopyFilter p0) y7).1) = false) →
                            (((((q9_law05_GravityGains p0 p1).2 == zz0) = true) →
                              (((List.length (q9_law05_GravityGains p0 p1).1) ≤ 1000000) ∧
                                ((lenOk (s_ref05_CopyFilter (q9_law05_GravityGains p0 p1).1)) ∧
                                ((((q6_law05_GravityGains p0 p1 y7) = false) →
                                ((q6_law05_GravityGains p0 p1 y7) = (q6_law05_GravityGains p0 p1 y7))) ∧
                                ((((q6_law05_GravityGains p0 p1 y7) = false) →
                                ((q6_law05_GravityGains p0 p1 y7) = (q6_law05_GravityGains p0 p1 y7))) ∧
                                ((((q6_law05_GravityGains p0 p1 y7) = false) →
                                ((q6_law05_GravityGains p0 p1 y7) = (q6_law05_GravityGains p0 p1 y7))) ∧
                                ((((q6_law05_GravityGains p0 p1 y7) = false) →
                                ((q6_law05_GravityGains p0 p1 y7) = (q6_law05_GravityGains p0 p1 y7))) ∧
                                (((q6_law05_GravityGains p0 p1 y7) = (q6_law05_GravityGains p0 p1 y7)) ∧
                                ((((cond (q6_law05_GravityGains p0 p1 y7) true ((t_gravity_GainAt (s_ref05_CopyFilter (q9_law05_GravityGains p0 p1).1) y7).1 != (wi ((t_gravity_GainAt (s_ref05_CopyFilter p0) y7).1 * (t_gravity_GainAt (s_ref05_CopyFilter p1) y7).1)))) = true) →
                                (K false)) ∧
                                (((cond (q6_law05_GravityGains p0 p1 y7) true ((t_gravity_GainAt (s_ref05_CopyFilter (q9_law05_GravityGains p0 p1).1) y7).1 != (wi ((t_gravity_GainAt (s_ref05_CopyFilter p0) y7).1 * (t_gravity_GainAt (s_ref05_CopyFilter p1) y7).1)))) = false) →
                                (k8 (wi (y7 + zz1))))))))))))) ∧
                              ((((q9_law05_GravityGains p0 p1).2 == zz0) = false) →
                              (k8 (wi (y7 + zz1)))))))))) n9 ((wi (zz0 - (wi ((((List.length p0) : Nat) : Int) - zz1)))), zz0)))))))))))))))))))))))))))))))))) ∧
                    (((decide (y7 < (4 : Int))) = false) →
                    (K true)))) n6 zz0)))))))))))))))))))))))))))))))))))))) n3 zz0))))))))))))))))))) n0 (zz0, ([] : List (Int × Int))))))))))))))))))))))))
set_option maxHeartbeats 4000000 in
theorem w_law05_GravityGains_eq (p0 : (List Int)) (p1 : (List Int)) (p2 : (Int × (Int × Int))) (K : Bool → Prop) : tfn F_law05_GravityGains A_law05_GravityGains C_law05_GravityGains P_law05_GravityGains R_law05_GravityGains (p0, p1, p2) K = w_law05_GravityGains p0 p1 p2 K := by kernel_rfl
def st_law05_GravityGains_0 (p0 : (List Int)) (p1 : (List Int)) (p2 : (Int × (Int × Int))) (y1 : (Int × (List (Int × Int)))) (y4 : Int) (y8 : Int) (y11 : (Int × Int)) : (Int × Int) ⊕ (Int ⊕ (Int ⊕ ((Int × (List (Int × Int))) ⊕ Bool))) :=
  (cond (decide (y11.1 ≤ (IntKind.i64.wrap ((((List.length p0) : Nat) : Int) - (1 : Int))))) (Sum.inl ((IntKind.i64.wrap (y11.1 + (1 : Int))), (IntKind.i64.wrap (y11.2 + (IntKind.i64.wrap ((List.getD p0 (Int.toNat (s_base_Size y11.1)) (0 : Int)) * (List.getD ((1 : Int) :: ((0 : Int) :: ((-1 : Int) :: ((0 : Int) :: ([] : List Int))))) (Int.toNat ((IntKind.i64.wrap (y11.1 * y8)) % (4 : Int))) (0 : Int))))))))
    (cond (y11.2 != (t_gravity_GainAt (s_ref05_CopyFilter p0) y8).1) (Sum.inr (Sum.inr (Sum.inr (Sum.inr false))))
    (cond ((t_gravity_Composed (s_ref05_CopyFilter p0) (s_ref05_CopyFilter p1)).2 == (0 : Int)) (cond (cond ((t_gravity_GainAt (s_ref05_CopyFilter (t_gravity_Composed (s_ref05_CopyFilter p0) (s_ref05_CopyFilter p1)).1) y8).2 != (0 : Int)) true ((t_gravity_GainAt (s_ref05_CopyFilter (t_gravity_Composed (s_ref05_CopyFilter p0) (s_ref05_CopyFilter p1)).1) y8).1 != (IntKind.i64.wrap ((t_gravity_GainAt (s_ref05_CopyFilter p0) y8).1 * (t_gravity_GainAt (s_ref05_CopyFilter p1) y8).1)))) (Sum.inr (Sum.inr (Sum.inr (Sum.inr false))))
    (Sum.inr (Sum.inl (IntKind.i64.wrap (y8 + (1 : Int))))))
    (Sum.inr (Sum.inl (IntKind.i64.wrap (y8 + (1 : Int))))))))
abbrev sp_law05_GravityGains_0 (p0 : (List Int)) (p1 : (List Int)) (p2 : (Int × (Int × Int))) (y1 : (Int × (List (Int × Int)))) (y4 : Int) (y8 : Int) (y11 : (Int × Int)) : List Prop := [(((decide (y11.1 ≤ (IntKind.i64.wrap ((((List.length p0) : Nat) : Int) - (1 : Int))))) = true) → ((0 : Int) ≤ (s_base_Size y11.1))),
    (((decide (y11.1 ≤ (IntKind.i64.wrap ((((List.length p0) : Nat) : Int) - (1 : Int))))) = true) → ((s_base_Size y11.1) < (((List.length p0) : Nat) : Int))),
    (((decide (y11.1 ≤ (IntKind.i64.wrap ((((List.length p0) : Nat) : Int) - (1 : Int))))) = true) → ((0 : Int) ≤ ((IntKind.i64.wrap (y11.1 * y8)) % (4 : Int)))),
    (((decide (y11.1 ≤ (IntKind.i64.wrap ((((List.length p0) : Nat) : Int) - (1 : Int))))) = true) → (((IntKind.i64.wrap (y11.1 * y8)) % (4 : Int)) < (((List.length ((1 : Int) :: ((0 : Int) :: ((-1 : Int) :: ((0 : Int) :: ([] : List Int)))))) : Nat) : Int))),
    (((decide (y11.1 ≤ (IntKind.i64.wrap ((((List.length p0) : Nat) : Int) - (1 : Int))))) = false) → (((y11.2 != (t_gravity_GainAt (s_ref05_CopyFilter p0) y8).1) = false) → ((((t_gravity_Composed (s_ref05_CopyFilter p0) (s_ref05_CopyFilter p1)).2 == (0 : Int)) = true) → ((List.length (t_gravity_Composed (s_ref05_CopyFilter p0) (s_ref05_CopyFilter p1)).1) ≤ 1000000)))),
    (((decide (y11.1 ≤ (IntKind.i64.wrap ((((List.length p0) : Nat) : Int) - (1 : Int))))) = false) → (((y11.2 != (t_gravity_GainAt (s_ref05_CopyFilter p0) y8).1) = false) → ((((t_gravity_Composed (s_ref05_CopyFilter p0) (s_ref05_CopyFilter p1)).2 == (0 : Int)) = true) → (lenOk (s_ref05_CopyFilter (t_gravity_Composed (s_ref05_CopyFilter p0) (s_ref05_CopyFilter p1)).1)))))]
def st_law05_GravityGains_1 (p0 : (List Int)) (p1 : (List Int)) (p2 : (Int × (Int × Int))) (y1 : (Int × (List (Int × Int)))) (y4 : Int) (y8 : Int) : Int ⊕ (Int ⊕ ((Int × (List (Int × Int))) ⊕ Bool)) :=
  (cond (decide (y8 < (4 : Int))) (cond (cond (cond (cond (cond (cond (cond (cond ((s_gravity_SumOf (s_ref05_CopyFilter p0)).2 != (0 : Int)) true ((t_gravity_GainAt (s_ref05_CopyFilter p0) y8).2 != (0 : Int))) true ((t_gravity_GainAt (s_ref05_CopyFilter p1) y8).2 != (0 : Int))) true ((t_gravity_GainAt (s_ref05_CopyFilter p0) (Int.tmod (IntKind.i64.wrap ((4 : Int) - y8)) (4 : Int))).2 != (0 : Int))) true ((t_gravity_GainAt (s_ref05_CopyFilter p0) (Int.tmod (IntKind.i64.wrap ((4 : Int) - y8)) (4 : Int))).1 != (t_gravity_GainAt (s_ref05_CopyFilter p0) y8).1)) true (cond (y8 == (0 : Int)) ((t_gravity_GainAt (s_ref05_CopyFilter p0) y8).1 != (s_gravity_SumOf (s_ref05_CopyFilter p0)).1) false)) true (!(s_base_Within (t_gravity_GainAt (s_ref05_CopyFilter p0) y8).1 (-2000000 : Int) (2000000 : Int)))) true (!(s_base_Within (t_gravity_GainAt (s_ref05_CopyFilter p1) y8).1 (-2000000 : Int) (2000000 : Int)))) (Sum.inr (Sum.inr (Sum.inr false)))
    (lpv (Sum.inr (Sum.inr (Sum.inr false))) (st_law05_GravityGains_0 p0 p1 p2 y1 y4 y8) ((IntKind.i64.wrap ((0 : Int) - (IntKind.i64.wrap ((((List.length p0) : Nat) : Int) - (1 : Int))))), (0 : Int))))
    (Sum.inr (Sum.inr (Sum.inr true))))
abbrev sp_law05_GravityGains_1 (p0 : (List Int)) (p1 : (List Int)) (p2 : (Int × (Int × Int))) (y1 : (Int × (List (Int × Int)))) (y4 : Int) (y8 : Int) : List Prop := [(((decide (y8 < (4 : Int))) = true) → ((List.length p0) ≤ 1000000)),
    (((decide (y8 < (4 : Int))) = true) → (lenOk (s_ref05_CopyFilter p0))),
    (((decide (y8 < (4 : Int))) = true) → ((List.length p1) ≤ 1000000)),
    (((decide (y8 < (4 : Int))) = true) → (lenOk (s_ref05_CopyFilter p1))),
    (((decide (y8 < (4 : Int))) = true) → (((cond (cond (cond (cond ((s_gravity_SumOf (s_ref05_CopyFilter p0)).2 != (0 : Int)) true ((t_gravity_GainAt (s_ref05_CopyFilter p0) y8).2 != (0 : Int))) true ((t_gravity_GainAt (s_ref05_CopyFilter p1) y8).2 != (0 : Int))) true ((t_gravity_GainAt (s_ref05_CopyFilter p0) (Int.tmod (IntKind.i64.wrap ((4 : Int) - y8)) (4 : Int))).2 != (0 : Int))) true ((t_gravity_GainAt (s_ref05_CopyFilter p0) (Int.tmod (IntKind.i64.wrap ((4 : Int) - y8)) (4 : Int))).1 != (t_gravity_GainAt (s_ref05_CopyFilter p0) y8).1)) = false) → (((!(cond (cond (cond (cond ((s_gravity_SumOf (s_ref05_CopyFilter p0)).2 != (0 : Int)) true ((t_gravity_GainAt (s_ref05_CopyFilter p0) y8).2 != (0 : Int))) true ((t_gravity_GainAt (s_ref05_CopyFilter p1) y8).2 != (0 : Int))) true ((t_gravity_GainAt (s_ref05_CopyFilter p0) (Int.tmod (IntKind.i64.wrap ((4 : Int) - y8)) (4 : Int))).2 != (0 : Int))) true ((t_gravity_GainAt (s_ref05_CopyFilter p0) (Int.tmod (IntKind.i64.wrap ((4 : Int) - y8)) (4 : Int))).1 != (t_gravity_GainAt (s_ref05_CopyFilter p0) y8).1))) && (y8 == (0 : Int))) = (y8 == (0 : Int))))),
    (((decide (y8 < (4 : Int))) = true) → (((cond (cond (cond (cond (cond (cond (cond ((s_gravity_SumOf (s_ref05_CopyFilter p0)).2 != (0 : Int)) true ((t_gravity_GainAt (s_ref05_CopyFilter p0) y8).2 != (0 : Int))) true ((t_gravity_GainAt (s_ref05_CopyFilter p1) y8).2 != (0 : Int))) true ((t_gravity_GainAt (s_ref05_CopyFilter p0) (Int.tmod (IntKind.i64.wrap ((4 : Int) - y8)) (4 : Int))).2 != (0 : Int))) true ((t_gravity_GainAt (s_ref05_CopyFilter p0) (Int.tmod (IntKind.i64.wrap ((4 : Int) - y8)) (4 : Int))).1 != (t_gravity_GainAt (s_ref05_CopyFilter p0) y8).1)) true (cond (y8 == (0 : Int)) ((t_gravity_GainAt (s_ref05_CopyFilter p0) y8).1 != (s_gravity_SumOf (s_ref05_CopyFilter p0)).1) false)) true (!(s_base_Within (t_gravity_GainAt (s_ref05_CopyFilter p0) y8).1 (-2000000 : Int) (2000000 : Int)))) true (!(s_base_Within (t_gravity_GainAt (s_ref05_CopyFilter p1) y8).1 (-2000000 : Int) (2000000 : Int)))) = false) → (OkL (st_law05_GravityGains_0 p0 p1 p2 y1 y4 y8) (sp_law05_GravityGains_0 p0 p1 p2 y1 y4 y8) ((IntKind.i64.wrap ((0 : Int) - (IntKind.i64.wrap ((((List.length p0) : Nat) : Int) - (1 : Int))))), (0 : Int)))))]
def st_law05_GravityGains_2 (p0 : (List Int)) (p1 : (List Int)) (p2 : (Int × (Int × Int))) (y1 : (Int × (List (Int × Int)))) (y4 : Int) : Int ⊕ ((Int × (List (Int × Int))) ⊕ Bool) :=
  (cond (decide (y4 < (((List.length (t_gravity_Filtered (s_ref05_CopyFilter p0) y1.2).1) : Nat) : Int))) (cond (!(((List.getD (t_gravity_Filtered (s_ref05_CopyFilter p0) y1.2).1 (Int.toNat y4) ((0 : Int), (0 : Int))).1 == (List.getD y1.2 (Int.toNat (IntKind.i64.wrap (y4 + (IntKind.i64.wrap ((((List.length p0) : Nat) : Int) - (1 : Int)))))) ((0 : Int), (0 : Int))).1) && (((List.getD (t_gravity_Filtered (s_ref05_CopyFilter p0) y1.2).1 (Int.toNat y4) ((0 : Int), (0 : Int))).2 == (List.getD y1.2 (Int.toNat (IntKind.i64.wrap (y4 + (IntKind.i64.wrap ((((List.length p0) : Nat) : Int) - (1 : Int)))))) ((0 : Int), (0 : Int))).2) && true))) (Sum.inr (Sum.inr false))
    (Sum.inl (IntKind.i64.wrap (y4 + (1 : Int)))))
    (cond (cond (cond (cond ((t_gravity_Composed (s_ref05_CopyFilter p0) (s_ref05_CopyFilter p1)).2 != (t_gravity_Composed (s_ref05_CopyFilter p1) (s_ref05_CopyFilter p0)).2) true (!(decide ((t_gravity_Composed (s_ref05_CopyFilter p0) (s_ref05_CopyFilter p1)).1 = (t_gravity_Composed (s_ref05_CopyFilter p1) (s_ref05_CopyFilter p0)).1)))) true (cond ((t_gravity_Composed (s_ref05_CopyFilter p0) (s_ref05_CopyFilter p1)).2 != (0 : Int)) ((t_gravity_Composed (s_ref05_CopyFilter p0) (s_ref05_CopyFilter p1)).2 != (8 : Int)) false)) true (cond ((t_gravity_Composed (s_ref05_CopyFilter p0) (s_ref05_CopyFilter p1)).2 == (0 : Int)) ((v_filerr (t_gravity_Composed (s_ref05_CopyFilter p0) (s_ref05_CopyFilter p1)).1) != (0 : Int)) false)) (Sum.inr (Sum.inr false))
    (lpv (Sum.inr (Sum.inr false)) (st_law05_GravityGains_1 p0 p1 p2 y1 y4) (0 : Int))))
abbrev sp_law05_GravityGains_2 (p0 : (List Int)) (p1 : (List Int)) (p2 : (Int × (Int × Int))) (y1 : (Int × (List (Int × Int)))) (y4 : Int) : List Prop := [(((decide (y4 < (((List.length (t_gravity_Filtered (s_ref05_CopyFilter p0) y1.2).1) : Nat) : Int))) = true) → ((0 : Int) ≤ y4)),
    (((decide (y4 < (((List.length (t_gravity_Filtered (s_ref05_CopyFilter p0) y1.2).1) : Nat) : Int))) = true) → (y4 < (((List.length (t_gravity_Filtered (s_ref05_CopyFilter p0) y1.2).1) : Nat) : Int))),
    (((decide (y4 < (((List.length (t_gravity_Filtered (s_ref05_CopyFilter p0) y1.2).1) : Nat) : Int))) = true) → ((0 : Int) ≤ (IntKind.i64.wrap (y4 + (IntKind.i64.wrap ((((List.length p0) : Nat) : Int) - (1 : Int))))))),
    (((decide (y4 < (((List.length (t_gravity_Filtered (s_ref05_CopyFilter p0) y1.2).1) : Nat) : Int))) = true) → ((IntKind.i64.wrap (y4 + (IntKind.i64.wrap ((((List.length p0) : Nat) : Int) - (1 : Int))))) < (((List.length y1.2) : Nat) : Int))),
    (((decide (y4 < (((List.length (t_gravity_Filtered (s_ref05_CopyFilter p0) y1.2).1) : Nat) : Int))) = false) → ((List.length p0) ≤ 1000000)),
    (((decide (y4 < (((List.length (t_gravity_Filtered (s_ref05_CopyFilter p0) y1.2).1) : Nat) : Int))) = false) → ((List.length p1) ≤ 1000000)),
    (((decide (y4 < (((List.length (t_gravity_Filtered (s_ref05_CopyFilter p0) y1.2).1) : Nat) : Int))) = false) → ((List.length (s_ref05_CopyFilter p0)) ≤ 1000000)),
    (((decide (y4 < (((List.length (t_gravity_Filtered (s_ref05_CopyFilter p0) y1.2).1) : Nat) : Int))) = false) → ((List.length (s_ref05_CopyFilter p1)) ≤ 1000000)),
    (((decide (y4 < (((List.length (t_gravity_Filtered (s_ref05_CopyFilter p0) y1.2).1) : Nat) : Int))) = false) → ((((t_gravity_Composed (s_ref05_CopyFilter p0) (s_ref05_CopyFilter p1)).2 != (t_gravity_Composed (s_ref05_CopyFilter p1) (s_ref05_CopyFilter p0)).2) = false) → (lenOk (t_gravity_Composed (s_ref05_CopyFilter p0) (s_ref05_CopyFilter p1)).1))),
    (((decide (y4 < (((List.length (t_gravity_Filtered (s_ref05_CopyFilter p0) y1.2).1) : Nat) : Int))) = false) → (((cond ((t_gravity_Composed (s_ref05_CopyFilter p0) (s_ref05_CopyFilter p1)).2 != (t_gravity_Composed (s_ref05_CopyFilter p1) (s_ref05_CopyFilter p0)).2) true (!(decide ((t_gravity_Composed (s_ref05_CopyFilter p0) (s_ref05_CopyFilter p1)).1 = (t_gravity_Composed (s_ref05_CopyFilter p1) (s_ref05_CopyFilter p0)).1)))) = false) → (((!(cond ((t_gravity_Composed (s_ref05_CopyFilter p0) (s_ref05_CopyFilter p1)).2 != (t_gravity_Composed (s_ref05_CopyFilter p1) (s_ref05_CopyFilter p0)).2) true (!(decide ((t_gravity_Composed (s_ref05_CopyFilter p0) (s_ref05_CopyFilter p1)).1 = (t_gravity_Composed (s_ref05_CopyFilter p1) (s_ref05_CopyFilter p0)).1))))) && ((t_gravity_Composed (s_ref05_CopyFilter p0) (s_ref05_CopyFilter p1)).2 != (0 : Int))) = ((t_gravity_Composed (s_ref05_CopyFilter p0) (s_ref05_CopyFilter p1)).2 != (0 : Int))))),
    (((decide (y4 < (((List.length (t_gravity_Filtered (s_ref05_CopyFilter p0) y1.2).1) : Nat) : Int))) = false) → (((cond (cond ((t_gravity_Composed (s_ref05_CopyFilter p0) (s_ref05_CopyFilter p1)).2 != (t_gravity_Composed (s_ref05_CopyFilter p1) (s_ref05_CopyFilter p0)).2) true (!(decide ((t_gravity_Composed (s_ref05_CopyFilter p0) (s_ref05_CopyFilter p1)).1 = (t_gravity_Composed (s_ref05_CopyFilter p1) (s_ref05_CopyFilter p0)).1)))) true (cond ((t_gravity_Composed (s_ref05_CopyFilter p0) (s_ref05_CopyFilter p1)).2 != (0 : Int)) ((t_gravity_Composed (s_ref05_CopyFilter p0) (s_ref05_CopyFilter p1)).2 != (8 : Int)) false)) = false) → (((!(cond (cond ((t_gravity_Composed (s_ref05_CopyFilter p0) (s_ref05_CopyFilter p1)).2 != (t_gravity_Composed (s_ref05_CopyFilter p1) (s_ref05_CopyFilter p0)).2) true (!(decide ((t_gravity_Composed (s_ref05_CopyFilter p0) (s_ref05_CopyFilter p1)).1 = (t_gravity_Composed (s_ref05_CopyFilter p1) (s_ref05_CopyFilter p0)).1)))) true (cond ((t_gravity_Composed (s_ref05_CopyFilter p0) (s_ref05_CopyFilter p1)).2 != (0 : Int)) ((t_gravity_Composed (s_ref05_CopyFilter p0) (s_ref05_CopyFilter p1)).2 != (8 : Int)) false))) && ((t_gravity_Composed (s_ref05_CopyFilter p0) (s_ref05_CopyFilter p1)).2 == (0 : Int))) = ((t_gravity_Composed (s_ref05_CopyFilter p0) (s_ref05_CopyFilter p1)).2 == (0 : Int))))),
    (((decide (y4 < (((List.length (t_gravity_Filtered (s_ref05_CopyFilter p0) y1.2).1) : Nat) : Int))) = false) → (((cond (cond (cond ((t_gravity_Composed (s_ref05_CopyFilter p0) (s_ref05_CopyFilter p1)).2 != (t_gravity_Composed (s_ref05_CopyFilter p1) (s_ref05_CopyFilter p0)).2) true (!(decide ((t_gravity_Composed (s_ref05_CopyFilter p0) (s_ref05_CopyFilter p1)).1 = (t_gravity_Composed (s_ref05_CopyFilter p1) (s_ref05_CopyFilter p0)).1)))) true (cond ((t_gravity_Composed (s_ref05_CopyFilter p0) (s_ref05_CopyFilter p1)).2 != (0 : Int)) ((t_gravity_Composed (s_ref05_CopyFilter p0) (s_ref05_CopyFilter p1)).2 != (8 : Int)) false)) true (cond ((t_gravity_Composed (s_ref05_CopyFilter p0) (s_ref05_CopyFilter p1)).2 == (0 : Int)) ((v_filerr (t_gravity_Composed (s_ref05_CopyFilter p0) (s_ref05_CopyFilter p1)).1) != (0 : Int)) false)) = false) → ((List.length p0) ≤ 1000000))),
    (((decide (y4 < (((List.length (t_gravity_Filtered (s_ref05_CopyFilter p0) y1.2).1) : Nat) : Int))) = false) → (((cond (cond (cond ((t_gravity_Composed (s_ref05_CopyFilter p0) (s_ref05_CopyFilter p1)).2 != (t_gravity_Composed (s_ref05_CopyFilter p1) (s_ref05_CopyFilter p0)).2) true (!(decide ((t_gravity_Composed (s_ref05_CopyFilter p0) (s_ref05_CopyFilter p1)).1 = (t_gravity_Composed (s_ref05_CopyFilter p1) (s_ref05_CopyFilter p0)).1)))) true (cond ((t_gravity_Composed (s_ref05_CopyFilter p0) (s_ref05_CopyFilter p1)).2 != (0 : Int)) ((t_gravity_Composed (s_ref05_CopyFilter p0) (s_ref05_CopyFilter p1)).2 != (8 : Int)) false)) true (cond ((t_gravity_Composed (s_ref05_CopyFilter p0) (s_ref05_CopyFilter p1)).2 == (0 : Int)) ((v_filerr (t_gravity_Composed (s_ref05_CopyFilter p0) (s_ref05_CopyFilter p1)).1) != (0 : Int)) false)) = false) → (lenOk (s_ref05_CopyFilter p0)))),
    (((decide (y4 < (((List.length (t_gravity_Filtered (s_ref05_CopyFilter p0) y1.2).1) : Nat) : Int))) = false) → (((cond (cond (cond ((t_gravity_Composed (s_ref05_CopyFilter p0) (s_ref05_CopyFilter p1)).2 != (t_gravity_Composed (s_ref05_CopyFilter p1) (s_ref05_CopyFilter p0)).2) true (!(decide ((t_gravity_Composed (s_ref05_CopyFilter p0) (s_ref05_CopyFilter p1)).1 = (t_gravity_Composed (s_ref05_CopyFilter p1) (s_ref05_CopyFilter p0)).1)))) true (cond ((t_gravity_Composed (s_ref05_CopyFilter p0) (s_ref05_CopyFilter p1)).2 != (0 : Int)) ((t_gravity_Composed (s_ref05_CopyFilter p0) (s_ref05_CopyFilter p1)).2 != (8 : Int)) false)) true (cond ((t_gravity_Composed (s_ref05_CopyFilter p0) (s_ref05_CopyFilter p1)).2 == (0 : Int)) ((v_filerr (t_gravity_Composed (s_ref05_CopyFilter p0) (s_ref05_CopyFilter p1)).1) != (0 : Int)) false)) = false) → ((((v_filerr (s_ref05_CopyFilter p0)) != (0 : Int)) = false) → (v_fw (s_ref05_CopyFilter p0))))),
    (((decide (y4 < (((List.length (t_gravity_Filtered (s_ref05_CopyFilter p0) y1.2).1) : Nat) : Int))) = false) → (((cond (cond (cond ((t_gravity_Composed (s_ref05_CopyFilter p0) (s_ref05_CopyFilter p1)).2 != (t_gravity_Composed (s_ref05_CopyFilter p1) (s_ref05_CopyFilter p0)).2) true (!(decide ((t_gravity_Composed (s_ref05_CopyFilter p0) (s_ref05_CopyFilter p1)).1 = (t_gravity_Composed (s_ref05_CopyFilter p1) (s_ref05_CopyFilter p0)).1)))) true (cond ((t_gravity_Composed (s_ref05_CopyFilter p0) (s_ref05_CopyFilter p1)).2 != (0 : Int)) ((t_gravity_Composed (s_ref05_CopyFilter p0) (s_ref05_CopyFilter p1)).2 != (8 : Int)) false)) true (cond ((t_gravity_Composed (s_ref05_CopyFilter p0) (s_ref05_CopyFilter p1)).2 == (0 : Int)) ((v_filerr (t_gravity_Composed (s_ref05_CopyFilter p0) (s_ref05_CopyFilter p1)).1) != (0 : Int)) false)) = false) → (OkL (st_law05_GravityGains_1 p0 p1 p2 y1 y4) (sp_law05_GravityGains_1 p0 p1 p2 y1 y4) (0 : Int))))]
def st_law05_GravityGains_3 (p0 : (List Int)) (p1 : (List Int)) (p2 : (Int × (Int × Int))) (y1 : (Int × (List (Int × Int)))) : (Int × (List (Int × Int))) ⊕ Bool :=
  (cond (decide (y1.1 < p2.2.2)) (Sum.inl ((IntKind.i64.wrap (y1.1 + (1 : Int))), (y1.2 ++ (((IntKind.i64.wrap (p2.1 + (IntKind.i64.wrap (y1.1 * p2.2.1)))), (IntKind.i64.wrap (p2.1 + (IntKind.i64.wrap (y1.1 * p2.2.1))))) :: ([] : List (Int × Int))))))
    (cond (cond ((t_gravity_Filtered (s_ref05_CopyFilter p0) y1.2).2 != (0 : Int)) true ((((List.length (t_gravity_Filtered (s_ref05_CopyFilter p0) y1.2).1) : Nat) : Int) != (max (0 : Int) (IntKind.i64.wrap (p2.2.2 - (IntKind.i64.wrap ((2 : Int) * (IntKind.i64.wrap ((((List.length p0) : Nat) : Int) - (1 : Int)))))))))) (Sum.inr false)
    (lpv (Sum.inr false) (st_law05_GravityGains_2 p0 p1 p2 y1) (0 : Int))))
abbrev sp_law05_GravityGains_3 (p0 : (List Int)) (p1 : (List Int)) (p2 : (Int × (Int × Int))) (y1 : (Int × (List (Int × Int)))) : List Prop := [(((decide (y1.1 < p2.2.2)) = true) → ((((List.length y1.2) + (List.length (((IntKind.i64.wrap (p2.1 + (IntKind.i64.wrap (y1.1 * p2.2.1)))), (IntKind.i64.wrap (p2.1 + (IntKind.i64.wrap (y1.1 * p2.2.1))))) :: ([] : List (Int × Int))))) * 16) ≤ 140737488355328)),
    (((decide (y1.1 < p2.2.2)) = false) → ((List.length p0) ≤ 1000000)),
    (((decide (y1.1 < p2.2.2)) = false) → ((List.length y1.2) ≤ 1000000)),
    (((decide (y1.1 < p2.2.2)) = false) → (lenOk (s_ref05_CopyFilter p0))),
    (((decide (y1.1 < p2.2.2)) = false) → (((cond ((t_gravity_Filtered (s_ref05_CopyFilter p0) y1.2).2 != (0 : Int)) true ((((List.length (t_gravity_Filtered (s_ref05_CopyFilter p0) y1.2).1) : Nat) : Int) != (max (0 : Int) (IntKind.i64.wrap (p2.2.2 - (IntKind.i64.wrap ((2 : Int) * (IntKind.i64.wrap ((((List.length p0) : Nat) : Int) - (1 : Int)))))))))) = false) → (OkL (st_law05_GravityGains_2 p0 p1 p2 y1) (sp_law05_GravityGains_2 p0 p1 p2 y1) (0 : Int))))]
def s_law05_GravityGains (p0 : (List Int)) (p1 : (List Int)) (p2 : (Int × (Int × Int))) : Bool :=
  (cond (cond (cond (cond (cond ((v_filerr p0) != (0 : Int)) true ((v_filerr p1) != (0 : Int))) true (!(s_base_Within p2.2.2 (0 : Int) (40 : Int)))) true (!(s_base_Within p2.1 (-1000 : Int) (1000 : Int)))) true (!(s_base_Within p2.2.1 (-1000 : Int) (1000 : Int)))) true
    (lpv false (st_law05_GravityGains_3 p0 p1 p2) ((0 : Int), ([] : List (Int × Int)))))
abbrev pre_law05_GravityGains (p0 : (List Int)) (p1 : (List Int)) (p2 : (Int × (Int × Int))) : List Prop := [(((cond (cond (cond (cond ((v_filerr p0) != (0 : Int)) true ((v_filerr p1) != (0 : Int))) true (!(s_base_Within p2.2.2 (0 : Int) (40 : Int)))) true (!(s_base_Within p2.1 (-1000 : Int) (1000 : Int)))) true (!(s_base_Within p2.2.1 (-1000 : Int) (1000 : Int)))) = false) → (OkL (st_law05_GravityGains_3 p0 p1 p2) (sp_law05_GravityGains_3 p0 p1 p2) ((0 : Int), ([] : List (Int × Int)))))]
set_option maxHeartbeats 4000000 in
theorem d_law05_GravityGains (p0 : (List Int)) (p1 : (List Int)) (p2 : (Int × (Int × Int))) (K : Bool → Prop) (hp : ∀ p ∈ pre_law05_GravityGains p0 p1 p2, p) (h : K (s_law05_GravityGains p0 p1 p2)) : w_law05_GravityGains p0 p1 p2 K := by
  unfold w_law05_GravityGains
  unfold s_law05_GravityGains at h
  obtain ⟨hp0, _⟩ := conj_of hp
  exact ⟨nof, fun _ => ⟨rf, rf, rfl, rf, rf, rf, rfl, rf, rf, rf, rfl, rf, rf, rf, rfl, (br' h (fun e0 h => h)
    (fun e0 h => (loop_gen (hp0 e0) h (fun y1 k1 hp h => by
  unfold st_law05_GravityGains_3 at h; obtain ⟨hp0, hp1, hp2, hp3, hp4, _⟩ := conj_of hp
  exact (br' h (fun e2 h => ⟨(hp0 e2), h⟩)
    (fun e2 h => ⟨(hp1 e2), (hp2 e2), (hp3 e2), rf, rf, rf, rf, rf, rf, rf, rf, rfl, (br' h (fun e3 h => h)
    (fun e3 h => (loop_gen (hp4 e2 e3) h (fun y4 k4 hp h => by
  unfold st_law05_GravityGains_2 at h; obtain ⟨hp0, hp1, hp2, hp3, hp4, hp5, hp6, hp7, hp8, hp9, hp10, hp11, hp12, hp13, hp14, _⟩ := conj_of hp
  exact (br' h (fun e5 h => ⟨(hp0 e5), (hp1 e5), (hp2 e5), (hp3 e5), (br' h (fun e6 h => h)
    (fun e6 h => h))⟩)
    (fun e5 h => ⟨(hp4 e5), (hp5 e5), (hp6 e5), (hp7 e5), (hp5 e5), (hp4 e5), (hp7 e5), (hp6 e5), rf, rf, rf, rf, (hp8 e5), rf, rfl, rf, rf, rf, rf, (hp9 e5), rfl, rf, rf, rf, rf, rf, (hp10 e5), rfl, (br' h (fun e7 h => h)
    (fun e7 h => ⟨(hp11 e5 e7), (hp12 e5 e7), (hp13 e5 e7), (loop_gen (hp14 e5 e7) h (fun y8 k8 hp h => by
  unfold st_law05_GravityGains_1 at h; obtain ⟨hp0, hp1, hp2, hp3, hp4, hp5, _⟩ := conj_of hp
  exact (br' h (fun e9 h => ⟨(hp0 e9), (hp1 e9), (hp2 e9), (hp3 e9), (hp0 e9), (hp1 e9), rf, rfl, rf, rfl, rf, rfl, rf, rf, rfl, rf, rf, rf, rf, rf, (hp4 e9), rfl, rf, rf, rfl, rf, rf, rfl, (br' h (fun e10 h => h)
    (fun e10 h => (loop_gen (hp5 e9 e10) h (fun y11 k11 hp h => by
  unfold st_law05_GravityGains_0 at h; obtain ⟨hp0, hp1, hp2, hp3, hp4, hp5, _⟩ := conj_of hp
  exact (br' h (fun e12 h => ⟨(hp0 e12), (hp1 e12), (od rfl), (hp2 e12), (hp3 e12), h⟩)
    (fun e12 h => (br' h (fun e13 h => h)
    (fun e13 h => (br' h (fun e14 h => ⟨(hp4 e12 e13 e14), (hp5 e12 e13 e14), rf, rf, rf, rf, rfl, (br' h (fun e15 h => h)
    (fun e15 h => h))⟩)
    (fun e14 h => h))))))))))⟩)
    (fun e9 h => h))))⟩))⟩))))))⟩))))))⟩⟩
abbrev con_law05_GravityGains : Con := ⟨P_law05_GravityGains, R_law05_GravityGains, fun x => pre_law05_GravityGains x.1 x.2.1 x.2.2, fun x => s_law05_GravityGains x.1 x.2.1 x.2.2⟩
theorem ok_law05_GravityGains : ConOk Tryd.prog 12 con_law05_GravityGains := ⟨k_law05_GravityGains, fun x hx => ret_tf (ps := P_law05_GravityGains) (rs := R_law05_GravityGains) (x := x) (y := s_law05_GravityGains x.1 x.2.1 x.2.2) e_law05_GravityGains hC_law05_GravityGains (tf_of (w_law05_GravityGains_eq x.1 x.2.1 x.2.2 (fun z => z = s_law05_GravityGains x.1 x.2.1 x.2.2)) (d_law05_GravityGains x.1 x.2.1 x.2.2 (fun z => z = s_law05_GravityGains x.1 x.2.1 x.2.2) hx rfl))⟩
end Go.Proofs.YtcecdmdnfmgnfaaDoor
