/- What the functions that GravityComposes reaches compute: contracts, each function once. No condition. -/
import Derived.Test.YtcecdmdnfmgnfaaDoorLayB
import Derived.Test.YtcecdmdnfmgnfaaDoorAwGGravityComposes
import Derived.KernelRfl
namespace Go.Proofs.YtcecdmdnfmgnfaaDoor
open Go Go.Mx
set_option maxRecDepth 100000
/-- Ranges, and ties: from, to, difference. -/
abbrev GR : Type := Int × Int
abbrev GT : Type := Int × Int × Int × Int
/- law05_light -/
def C_law05_light : Cons := []
theorem hC_law05_light : ConsOk Tryd.prog C_law05_light := ConsOk.nil
def w_law05_light (p0 : (List Int)) (K : Bool → Prop) : Prop :=
  (K (decide ((((List.length p0) : Nat) : Int) ≤ (11 : Int))))
set_option maxHeartbeats 4000000 in
theorem w_law05_light_eq (p0 : (List Int)) (K : Bool → Prop) : tfn F_law05_light A_law05_light C_law05_light P_law05_light R_law05_light p0 K = w_law05_light p0 K := by kernel_rfl
def s_law05_light (p0 : (List Int)) : Bool :=
  (decide ((((List.length p0) : Nat) : Int) ≤ (11 : Int)))
abbrev pre_law05_light (p0 : (List Int)) : List Prop := []
set_option maxHeartbeats 4000000 in
theorem d_law05_light (p0 : (List Int)) (K : Bool → Prop) (hp : ∀ p ∈ pre_law05_light p0, p) (h : K (s_law05_light p0)) : w_law05_light p0 K := by
  unfold w_law05_light
  unfold s_law05_light at h
  exact h
abbrev con_law05_light : Con := ⟨P_law05_light, R_law05_light, fun x => pre_law05_light x, fun x => s_law05_light x⟩
theorem ok_law05_light : ConOk Tryd.prog 16 con_law05_light := ⟨k_law05_light, fun x hx => ret_tf (ps := P_law05_light) (rs := R_law05_light) (x := x) (y := s_law05_light x) e_law05_light hC_law05_light (tf_of (w_law05_light_eq x (fun z => z = s_law05_light x)) (d_law05_light x (fun z => z = s_law05_light x) hx rfl))⟩
/- base_CopyInts -/
def C_base_CopyInts : Cons := []
theorem hC_base_CopyInts : ConsOk Tryd.prog C_base_CopyInts := ConsOk.nil
def w_base_CopyInts (p0 : (List Int)) (K : (List Int) → Prop) : Prop :=
  (((((List.length ([] : List Int)) + (List.length p0)) * 8) ≤ 140737488355328) ∧
  (K (([] : List Int) ++ p0)))
set_option maxHeartbeats 4000000 in
theorem w_base_CopyInts_eq (p0 : (List Int)) (K : (List Int) → Prop) : tfnO F_base_CopyInts A_base_CopyInts C_base_CopyInts P_base_CopyInts E_base_CopyInts p0 K = w_base_CopyInts p0 K := by kernel_rfl
def s_base_CopyInts (p0 : (List Int)) : (List Int) :=
  (([] : List Int) ++ p0)
abbrev pre_base_CopyInts (p0 : (List Int)) : List Prop := [((((List.length ([] : List Int)) + (List.length p0)) * 8) ≤ 140737488355328)]
set_option maxHeartbeats 4000000 in
theorem d_base_CopyInts (p0 : (List Int)) (K : (List Int) → Prop) (hp : ∀ p ∈ pre_base_CopyInts p0, p) (h : K (s_base_CopyInts p0)) : w_base_CopyInts p0 K := by
  unfold w_base_CopyInts
  unfold s_base_CopyInts at h
  obtain ⟨hp0, _⟩ := conj_of hp
  exact ⟨(hp0), h⟩
abbrev t_base_CopyInts (p0 : List Int) : List Int := p0
abbrev qre_base_CopyInts (p0 : List Int) : List Prop := [p0.length ≤ 1000000]
theorem pp_base_CopyInts (p0 : List Int) (hq : ∀ p ∈ qre_base_CopyInts p0, p) : ∀ p ∈ pre_base_CopyInts p0, p := by
  simp only [pre_base_CopyInts, List.forall_mem_cons]
  have := (conj_of hq).1
  exact ⟨by simp; omega, by simp⟩
theorem tt_base_CopyInts (p0 : List Int) (hq : ∀ p ∈ qre_base_CopyInts p0, p) : s_base_CopyInts p0 = t_base_CopyInts p0 := by
  rfl

abbrev con_base_CopyInts : Con := ⟨P_base_CopyInts, [.one (.sl E_base_CopyInts)], fun x => qre_base_CopyInts x, fun x => t_base_CopyInts x⟩
theorem ok_base_CopyInts : ConOOk Tryd.prog 31 con_base_CopyInts := conO_tf (e := E_base_CopyInts) (ps := P_base_CopyInts) k_base_CopyInts e_base_CopyInts hC_base_CopyInts (fun x hx => tfo_of (w_base_CopyInts_eq x (fun z => z = t_base_CopyInts x)) (d_base_CopyInts x (fun z => z = t_base_CopyInts x) (pp_base_CopyInts x hx) (tt_base_CopyInts x hx)))
/- ref05_CopyFilter -/
def C_ref05_CopyFilter : Cons := [(31, ownMark, con_base_CopyInts)]
theorem hC_ref05_CopyFilter : ConsOk Tryd.prog C_ref05_CopyFilter := ConsOk.consO ok_base_CopyInts <| ConsOk.nil
def w_ref05_CopyFilter (p0 : (List Int)) (K : (List Int) → Prop) : Prop :=
  (((List.length p0) ≤ 1000000) ∧
  (K p0))
set_option maxHeartbeats 4000000 in
theorem w_ref05_CopyFilter_eq (p0 : (List Int)) (K : (List Int) → Prop) : tfn F_ref05_CopyFilter A_ref05_CopyFilter C_ref05_CopyFilter P_ref05_CopyFilter R_ref05_CopyFilter p0 K = w_ref05_CopyFilter p0 K := by kernel_rfl
def s_ref05_CopyFilter (p0 : (List Int)) : (List Int) :=
  p0
abbrev pre_ref05_CopyFilter (p0 : (List Int)) : List Prop := [((List.length p0) ≤ 1000000)]
set_option maxHeartbeats 4000000 in
theorem d_ref05_CopyFilter (p0 : (List Int)) (K : (List Int) → Prop) (hp : ∀ p ∈ pre_ref05_CopyFilter p0, p) (h : K (s_ref05_CopyFilter p0)) : w_ref05_CopyFilter p0 K := by
  unfold w_ref05_CopyFilter
  unfold s_ref05_CopyFilter at h
  obtain ⟨hp0, _⟩ := conj_of hp
  exact ⟨(hp0), h⟩
abbrev con_ref05_CopyFilter : Con := ⟨P_ref05_CopyFilter, R_ref05_CopyFilter, fun x => pre_ref05_CopyFilter x, fun x => s_ref05_CopyFilter x⟩
theorem ok_ref05_CopyFilter : ConOk Tryd.prog 18 con_ref05_CopyFilter := ⟨k_ref05_CopyFilter, fun x hx => ret_tf (ps := P_ref05_CopyFilter) (rs := R_ref05_CopyFilter) (x := x) (y := s_ref05_CopyFilter x) e_ref05_CopyFilter hC_ref05_CopyFilter (tf_of (w_ref05_CopyFilter_eq x (fun z => z = s_ref05_CopyFilter x)) (d_ref05_CopyFilter x (fun z => z = s_ref05_CopyFilter x) hx rfl))⟩
/- gravity_within -/
def C_gravity_within : Cons := []
theorem hC_gravity_within : ConsOk Tryd.prog C_gravity_within := ConsOk.nil
def w_gravity_within (p0 : Int) (p1 : Int) (p2 : Int) (K : Bool → Prop) : Prop :=
  ((((decide (p1 ≤ p0)) = true) →
  ((decide (p1 ≤ p0)) = (decide (p1 ≤ p0)))) ∧
  ((((decide (p1 ≤ p0)) = true) →
  ((decide (p1 ≤ p0)) = (decide (p1 ≤ p0)))) ∧
  (((decide (p1 ≤ p0)) = (decide (p1 ≤ p0))) ∧
  (K (cond (decide (p1 ≤ p0)) (decide (p0 ≤ p2)) false)))))
set_option maxHeartbeats 4000000 in
theorem w_gravity_within_eq (p0 : Int) (p1 : Int) (p2 : Int) (K : Bool → Prop) : tfn F_gravity_within A_gravity_within C_gravity_within P_gravity_within R_gravity_within (p0, p1, p2) K = w_gravity_within p0 p1 p2 K := by kernel_rfl
def s_gravity_within (p0 : Int) (p1 : Int) (p2 : Int) : Bool :=
  (cond (decide (p1 ≤ p0)) (decide (p0 ≤ p2)) false)
abbrev pre_gravity_within (p0 : Int) (p1 : Int) (p2 : Int) : List Prop := []
set_option maxHeartbeats 4000000 in
theorem d_gravity_within (p0 : Int) (p1 : Int) (p2 : Int) (K : Bool → Prop) (hp : ∀ p ∈ pre_gravity_within p0 p1 p2, p) (h : K (s_gravity_within p0 p1 p2)) : w_gravity_within p0 p1 p2 K := by
  unfold w_gravity_within
  unfold s_gravity_within at h
  exact ⟨(fun _ => rfl), ⟨(fun _ => rfl), ⟨rfl, h⟩⟩⟩
abbrev con_gravity_within : Con := ⟨P_gravity_within, R_gravity_within, fun x => pre_gravity_within x.1 x.2.1 x.2.2, fun x => s_gravity_within x.1 x.2.1 x.2.2⟩
theorem ok_gravity_within : ConOk Tryd.prog 94 con_gravity_within := ⟨k_gravity_within, fun x hx => ret_tf (ps := P_gravity_within) (rs := R_gravity_within) (x := x) (y := s_gravity_within x.1 x.2.1 x.2.2) e_gravity_within hC_gravity_within (tf_of (w_gravity_within_eq x.1 x.2.1 x.2.2 (fun z => z = s_gravity_within x.1 x.2.1 x.2.2)) (d_gravity_within x.1 x.2.1 x.2.2 (fun z => z = s_gravity_within x.1 x.2.1 x.2.2) hx rfl))⟩
theorem tx_within {n lo hi : Int} : s_gravity_within n lo hi = true ↔ lo ≤ n ∧ n ≤ hi := by unfold s_gravity_within; simp
/- gravity_isSized -/
def C_gravity_isSized : Cons := [(94, [], con_gravity_within)]
theorem hC_gravity_isSized : ConsOk Tryd.prog C_gravity_isSized := ConsOk.cons ok_gravity_within <| ConsOk.nil
def w_gravity_isSized (p0 : Int) (p1 : Int) (K : Bool → Prop) : Prop :=
  (K (s_gravity_within p0 (Go.IntKind.wrap .i64 ((0 : Int) - p1)) p1))
set_option maxHeartbeats 4000000 in
theorem w_gravity_isSized_eq (p0 : Int) (p1 : Int) (K : Bool → Prop) : tfn F_gravity_isSized A_gravity_isSized C_gravity_isSized P_gravity_isSized R_gravity_isSized (p0, p1) K = w_gravity_isSized p0 p1 K := by kernel_rfl
def s_gravity_isSized (p0 : Int) (p1 : Int) : Bool :=
  (s_gravity_within p0 (Go.IntKind.wrap .i64 ((0 : Int) - p1)) p1)
abbrev pre_gravity_isSized (p0 : Int) (p1 : Int) : List Prop := []
set_option maxHeartbeats 4000000 in
theorem d_gravity_isSized (p0 : Int) (p1 : Int) (K : Bool → Prop) (hp : ∀ p ∈ pre_gravity_isSized p0 p1, p) (h : K (s_gravity_isSized p0 p1)) : w_gravity_isSized p0 p1 K := by
  unfold w_gravity_isSized
  unfold s_gravity_isSized at h
  exact h
abbrev con_gravity_isSized : Con := ⟨P_gravity_isSized, R_gravity_isSized, fun x => pre_gravity_isSized x.1 x.2, fun x => s_gravity_isSized x.1 x.2⟩
theorem ok_gravity_isSized : ConOk Tryd.prog 93 con_gravity_isSized := ⟨k_gravity_isSized, fun x hx => ret_tf (ps := P_gravity_isSized) (rs := R_gravity_isSized) (x := x) (y := s_gravity_isSized x.1 x.2) e_gravity_isSized hC_gravity_isSized (tf_of (w_gravity_isSized_eq x.1 x.2 (fun z => z = s_gravity_isSized x.1 x.2)) (d_gravity_isSized x.1 x.2 (fun z => z = s_gravity_isSized x.1 x.2) hx rfl))⟩
/- gravity_CheckFilter_1 -/
def C_gravity_CheckFilter_1 : Cons := [(93, [], con_gravity_isSized)]
theorem hC_gravity_CheckFilter_1 : ConsOk Tryd.prog C_gravity_CheckFilter_1 := ConsOk.cons ok_gravity_isSized <| ConsOk.nil
def w_gravity_CheckFilter_1 (p0 : Int) (K : Bool → Prop) : Prop :=
  (K (!(s_gravity_isSized p0 (100000 : Int))))
set_option maxHeartbeats 4000000 in
theorem w_gravity_CheckFilter_1_eq (p0 : Int) (K : Bool → Prop) : tfn F_gravity_CheckFilter_1 A_gravity_CheckFilter_1 C_gravity_CheckFilter_1 P_gravity_CheckFilter_1 R_gravity_CheckFilter_1 p0 K = w_gravity_CheckFilter_1 p0 K := by kernel_rfl
def s_gravity_CheckFilter_1 (p0 : Int) : Bool :=
  (!(s_gravity_isSized p0 (100000 : Int)))
abbrev pre_gravity_CheckFilter_1 (p0 : Int) : List Prop := []
set_option maxHeartbeats 4000000 in
theorem d_gravity_CheckFilter_1 (p0 : Int) (K : Bool → Prop) (hp : ∀ p ∈ pre_gravity_CheckFilter_1 p0, p) (h : K (s_gravity_CheckFilter_1 p0)) : w_gravity_CheckFilter_1 p0 K := by
  unfold w_gravity_CheckFilter_1
  unfold s_gravity_CheckFilter_1 at h
  exact h
abbrev con_gravity_CheckFilter_1 : Con := ⟨P_gravity_CheckFilter_1, R_gravity_CheckFilter_1, fun x => pre_gravity_CheckFilter_1 x, fun x => s_gravity_CheckFilter_1 x⟩
theorem ok_gravity_CheckFilter_1 : ConOk Tryd.prog 121 con_gravity_CheckFilter_1 := ⟨k_gravity_CheckFilter_1, fun x hx => ret_tf (ps := P_gravity_CheckFilter_1) (rs := R_gravity_CheckFilter_1) (x := x) (y := s_gravity_CheckFilter_1 x) e_gravity_CheckFilter_1 hC_gravity_CheckFilter_1 (tf_of (w_gravity_CheckFilter_1_eq x (fun z => z = s_gravity_CheckFilter_1 x)) (d_gravity_CheckFilter_1 x (fun z => z = s_gravity_CheckFilter_1 x) hx rfl))⟩
/- slices_IndexFuncint_int__gravity_CheckFilter_1 -/
def C_slices_IndexFuncint_int__gravity_CheckFilter_1 : Cons := [(121, [], con_gravity_CheckFilter_1)]
theorem hC_slices_IndexFuncint_int__gravity_CheckFilter_1 : ConsOk Tryd.prog C_slices_IndexFuncint_int__gravity_CheckFilter_1 := ConsOk.cons ok_gravity_CheckFilter_1 <| ConsOk.nil
def w_slices_IndexFuncint_int__gravity_CheckFilter_1 (p0 : (List Int)) (p1 : PUnit) (K : Int → Prop) : Prop :=
  (∃ n0, (loopP (fun (y1 : Int) k2 =>
    ((((decide (y1 < (((List.length p0) : Nat) : Int))) = true) →
    (((0 : Int) ≤ y1) ∧
      ((y1 < (((List.length p0) : Nat) : Int)) ∧
      ((((s_gravity_CheckFilter_1 (List.getD p0 (Int.toNat y1) (0 : Int))) = true) →
      (K y1)) ∧
      (((s_gravity_CheckFilter_1 (List.getD p0 (Int.toNat y1) (0 : Int))) = false) →
      (k2 (Go.IntKind.wrap .i64 (y1 + (1 : Int))))))))) ∧
    (((decide (y1 < (((List.length p0) : Nat) : Int))) = false) →
    (K (-1 : Int))))) n0 (0 : Int)))
set_option maxHeartbeats 4000000 in
theorem w_slices_IndexFuncint_int__gravity_CheckFilter_1_eq (p0 : (List Int)) (p1 : PUnit) (K : Int → Prop) : tfn F_slices_IndexFuncint_int__gravity_CheckFilter_1 A_slices_IndexFuncint_int__gravity_CheckFilter_1 C_slices_IndexFuncint_int__gravity_CheckFilter_1 P_slices_IndexFuncint_int__gravity_CheckFilter_1 R_slices_IndexFuncint_int__gravity_CheckFilter_1 (p0, p1) K = w_slices_IndexFuncint_int__gravity_CheckFilter_1 p0 p1 K := by kernel_rfl
def st_slices_IndexFuncint_int__gravity_CheckFilter_1_0 (p0 : (List Int)) (p1 : PUnit) (y0 : Int) : Int ⊕ Int :=
  (cond (decide (y0 < (((List.length p0) : Nat) : Int))) (cond (s_gravity_CheckFilter_1 (List.getD p0 (Int.toNat y0) (0 : Int))) (Sum.inr y0)
    (Sum.inl (Go.IntKind.wrap .i64 (y0 + (1 : Int)))))
    (Sum.inr (-1 : Int)))
abbrev sp_slices_IndexFuncint_int__gravity_CheckFilter_1_0 (p0 : (List Int)) (p1 : PUnit) (y0 : Int) : List Prop := [(((decide (y0 < (((List.length p0) : Nat) : Int))) = true) → ((0 : Int) ≤ y0)),
    (((decide (y0 < (((List.length p0) : Nat) : Int))) = true) → (y0 < (((List.length p0) : Nat) : Int)))]
def s_slices_IndexFuncint_int__gravity_CheckFilter_1 (p0 : (List Int)) (p1 : PUnit) : Int :=
  (lpv (0 : Int) (st_slices_IndexFuncint_int__gravity_CheckFilter_1_0 p0 p1) (0 : Int))
abbrev pre_slices_IndexFuncint_int__gravity_CheckFilter_1 (p0 : (List Int)) (p1 : PUnit) : List Prop := [(OkL (st_slices_IndexFuncint_int__gravity_CheckFilter_1_0 p0 p1) (sp_slices_IndexFuncint_int__gravity_CheckFilter_1_0 p0 p1) (0 : Int))]
set_option maxHeartbeats 4000000 in
theorem d_slices_IndexFuncint_int__gravity_CheckFilter_1 (p0 : (List Int)) (p1 : PUnit) (K : Int → Prop) (hp : ∀ p ∈ pre_slices_IndexFuncint_int__gravity_CheckFilter_1 p0 p1, p) (h : K (s_slices_IndexFuncint_int__gravity_CheckFilter_1 p0 p1)) : w_slices_IndexFuncint_int__gravity_CheckFilter_1 p0 p1 K := by
  unfold w_slices_IndexFuncint_int__gravity_CheckFilter_1
  unfold s_slices_IndexFuncint_int__gravity_CheckFilter_1 at h
  obtain ⟨hp0, _⟩ := conj_of hp
  exact (loop_gen (hp0) h (fun y0 k0 hp h => by
  unfold st_slices_IndexFuncint_int__gravity_CheckFilter_1_0 at h; obtain ⟨hp0, hp1, _⟩ := conj_of hp
  exact (br' h (fun e1 h => ⟨(hp0 e1), ⟨(hp1 e1), (br' h (fun e2 h => h)
    (fun e2 h => h))⟩⟩)
    (fun e1 h => h))))
theorem l_slices_IndexFuncint_int__gravity_CheckFilter_1_0 (p0 : List Int) (p1 : PUnit) (hl : lenOk p0) : OkL (st_slices_IndexFuncint_int__gravity_CheckFilter_1_0 p0 p1) (sp_slices_IndexFuncint_int__gravity_CheckFilter_1_0 p0 p1) 0 ∧ lpv (0 : Int) (st_slices_IndexFuncint_int__gravity_CheckFilter_1_0 p0 p1) 0 = v_scan (fun i x => cond (s_gravity_CheckFilter_1 x) (some i) none) (-1 : Int) 0 p0 := by
  refine scan_is p0 0 (fun i x => cond (s_gravity_CheckFilter_1 x) (some i) none) (-1 : Int) hl ?_ ?_
  · refine ⟨by simp only [sp_slices_IndexFuncint_int__gravity_CheckFilter_1_0, List.forall_mem_cons, decide_eq_true_eq]; simp, by simp [st_slices_IndexFuncint_int__gravity_CheckFilter_1_0]⟩
  · intro j hj
    have hj' : (j : Int) < p0.length := by omega
    refine ⟨by simp only [sp_slices_IndexFuncint_int__gravity_CheckFilter_1_0, List.forall_mem_cons, decide_eq_true_eq, Int.toNat_natCast]; simp <;> omega, ?_⟩
    simp only [st_slices_IndexFuncint_int__gravity_CheckFilter_1_0, hj', decide_true, Int.toNat_natCast, cond_true, wrap_nat (show (j : Int) ≤ 9223372036854775806 by unfold lenOk at hl; omega)]
    generalize p0.getD j 0 = x
    cases s_gravity_CheckFilter_1 x <;> rfl
def v_idx_slices_IndexFuncint_int__gravity_CheckFilter_1 (p0 : List Int) : Int := v_scan (fun i x => cond (s_gravity_CheckFilter_1 x) (some i) none) (-1) 0 p0
abbrev t_slices_IndexFuncint_int__gravity_CheckFilter_1 (p0 : List Int) (p1 : PUnit) : Int := v_idx_slices_IndexFuncint_int__gravity_CheckFilter_1 p0
abbrev qre_slices_IndexFuncint_int__gravity_CheckFilter_1 (p0 : List Int) (p1 : PUnit) : List Prop := [lenOk p0]
theorem pp_slices_IndexFuncint_int__gravity_CheckFilter_1 (p0 : List Int) (p1 : PUnit) (hq : ∀ p ∈ qre_slices_IndexFuncint_int__gravity_CheckFilter_1 p0 p1, p) : ∀ p ∈ pre_slices_IndexFuncint_int__gravity_CheckFilter_1 p0 p1, p := by
  simp only [pre_slices_IndexFuncint_int__gravity_CheckFilter_1, List.forall_mem_cons]
  exact ⟨(l_slices_IndexFuncint_int__gravity_CheckFilter_1_0 p0 p1 (conj_of hq).1).1, by simp⟩
theorem tt_slices_IndexFuncint_int__gravity_CheckFilter_1 (p0 : List Int) (p1 : PUnit) (hq : ∀ p ∈ qre_slices_IndexFuncint_int__gravity_CheckFilter_1 p0 p1, p) : s_slices_IndexFuncint_int__gravity_CheckFilter_1 p0 p1 = t_slices_IndexFuncint_int__gravity_CheckFilter_1 p0 p1 := by
  exact (l_slices_IndexFuncint_int__gravity_CheckFilter_1_0 p0 p1 (conj_of hq).1).2

abbrev con_slices_IndexFuncint_int__gravity_CheckFilter_1 : Con := ⟨P_slices_IndexFuncint_int__gravity_CheckFilter_1, R_slices_IndexFuncint_int__gravity_CheckFilter_1, fun x => qre_slices_IndexFuncint_int__gravity_CheckFilter_1 x.1 x.2, fun x => t_slices_IndexFuncint_int__gravity_CheckFilter_1 x.1 x.2⟩
theorem ok_slices_IndexFuncint_int__gravity_CheckFilter_1 : ConOk Tryd.prog 107 con_slices_IndexFuncint_int__gravity_CheckFilter_1 := ⟨k_slices_IndexFuncint_int__gravity_CheckFilter_1, fun x hx => ret_tf (ps := P_slices_IndexFuncint_int__gravity_CheckFilter_1) (rs := R_slices_IndexFuncint_int__gravity_CheckFilter_1) (x := x) (y := t_slices_IndexFuncint_int__gravity_CheckFilter_1 x.1 x.2) e_slices_IndexFuncint_int__gravity_CheckFilter_1 hC_slices_IndexFuncint_int__gravity_CheckFilter_1 (tf_of (w_slices_IndexFuncint_int__gravity_CheckFilter_1_eq x.1 x.2 (fun z => z = t_slices_IndexFuncint_int__gravity_CheckFilter_1 x.1 x.2)) (d_slices_IndexFuncint_int__gravity_CheckFilter_1 x.1 x.2 (fun z => z = t_slices_IndexFuncint_int__gravity_CheckFilter_1 x.1 x.2) (pp_slices_IndexFuncint_int__gravity_CheckFilter_1 x.1 x.2 hx) (tt_slices_IndexFuncint_int__gravity_CheckFilter_1 x.1 x.2 hx)))⟩
/- slices_ContainsFuncint_int__gravity_CheckFilter_1 -/
def C_slices_ContainsFuncint_int__gravity_CheckFilter_1 : Cons := [(107, [121], con_slices_IndexFuncint_int__gravity_CheckFilter_1)]
theorem hC_slices_ContainsFuncint_int__gravity_CheckFilter_1 : ConsOk Tryd.prog C_slices_ContainsFuncint_int__gravity_CheckFilter_1 := ConsOk.cons ok_slices_IndexFuncint_int__gravity_CheckFilter_1 <| ConsOk.nil
def w_slices_ContainsFuncint_int__gravity_CheckFilter_1 (p0 : (List Int)) (p1 : PUnit) (K : Bool → Prop) : Prop :=
  ((lenOk p0) ∧
  (K (decide ((v_idx_slices_IndexFuncint_int__gravity_CheckFilter_1 p0) ≥ (0 : Int)))))
set_option maxHeartbeats 4000000 in
theorem w_slices_ContainsFuncint_int__gravity_CheckFilter_1_eq (p0 : (List Int)) (p1 : PUnit) (K : Bool → Prop) : tfn F_slices_ContainsFuncint_int__gravity_CheckFilter_1 A_slices_ContainsFuncint_int__gravity_CheckFilter_1 C_slices_ContainsFuncint_int__gravity_CheckFilter_1 P_slices_ContainsFuncint_int__gravity_CheckFilter_1 R_slices_ContainsFuncint_int__gravity_CheckFilter_1 (p0, p1) K = w_slices_ContainsFuncint_int__gravity_CheckFilter_1 p0 p1 K := by kernel_rfl
def s_slices_ContainsFuncint_int__gravity_CheckFilter_1 (p0 : (List Int)) (p1 : PUnit) : Bool :=
  (decide ((v_idx_slices_IndexFuncint_int__gravity_CheckFilter_1 p0) ≥ (0 : Int)))
abbrev pre_slices_ContainsFuncint_int__gravity_CheckFilter_1 (p0 : (List Int)) (p1 : PUnit) : List Prop := [(lenOk p0)]
set_option maxHeartbeats 4000000 in
theorem d_slices_ContainsFuncint_int__gravity_CheckFilter_1 (p0 : (List Int)) (p1 : PUnit) (K : Bool → Prop) (hp : ∀ p ∈ pre_slices_ContainsFuncint_int__gravity_CheckFilter_1 p0 p1, p) (h : K (s_slices_ContainsFuncint_int__gravity_CheckFilter_1 p0 p1)) : w_slices_ContainsFuncint_int__gravity_CheckFilter_1 p0 p1 K := by
  unfold w_slices_ContainsFuncint_int__gravity_CheckFilter_1
  unfold s_slices_ContainsFuncint_int__gravity_CheckFilter_1 at h
  obtain ⟨hp0, _⟩ := conj_of hp
  exact ⟨(hp0), h⟩
def v_any_slices_ContainsFuncint_int__gravity_CheckFilter_1 (p0 : List Int) : Bool := p0.any s_gravity_CheckFilter_1
abbrev t_slices_ContainsFuncint_int__gravity_CheckFilter_1 (p0 : List Int) (p1 : PUnit) : Bool := v_any_slices_ContainsFuncint_int__gravity_CheckFilter_1 p0
abbrev qre_slices_ContainsFuncint_int__gravity_CheckFilter_1 (p0 : List Int) (p1 : PUnit) : List Prop := [lenOk p0]
theorem pp_slices_ContainsFuncint_int__gravity_CheckFilter_1 (p0 : List Int) (p1 : PUnit) (hq : ∀ p ∈ qre_slices_ContainsFuncint_int__gravity_CheckFilter_1 p0 p1, p) : ∀ p ∈ pre_slices_ContainsFuncint_int__gravity_CheckFilter_1 p0 p1, p := by
  simpa only [pre_slices_ContainsFuncint_int__gravity_CheckFilter_1] using hq
theorem tt_slices_ContainsFuncint_int__gravity_CheckFilter_1 (p0 : List Int) (p1 : PUnit) (hq : ∀ p ∈ qre_slices_ContainsFuncint_int__gravity_CheckFilter_1 p0 p1, p) : s_slices_ContainsFuncint_int__gravity_CheckFilter_1 p0 p1 = t_slices_ContainsFuncint_int__gravity_CheckFilter_1 p0 p1 := by
  unfold s_slices_ContainsFuncint_int__gravity_CheckFilter_1 t_slices_ContainsFuncint_int__gravity_CheckFilter_1 v_any_slices_ContainsFuncint_int__gravity_CheckFilter_1
  exact v_scan_idx p0 0 (Int.le_refl 0)

abbrev con_slices_ContainsFuncint_int__gravity_CheckFilter_1 : Con := ⟨P_slices_ContainsFuncint_int__gravity_CheckFilter_1, R_slices_ContainsFuncint_int__gravity_CheckFilter_1, fun x => qre_slices_ContainsFuncint_int__gravity_CheckFilter_1 x.1 x.2, fun x => t_slices_ContainsFuncint_int__gravity_CheckFilter_1 x.1 x.2⟩
theorem ok_slices_ContainsFuncint_int__gravity_CheckFilter_1 : ConOk Tryd.prog 91 con_slices_ContainsFuncint_int__gravity_CheckFilter_1 := ⟨k_slices_ContainsFuncint_int__gravity_CheckFilter_1, fun x hx => ret_tf (ps := P_slices_ContainsFuncint_int__gravity_CheckFilter_1) (rs := R_slices_ContainsFuncint_int__gravity_CheckFilter_1) (x := x) (y := t_slices_ContainsFuncint_int__gravity_CheckFilter_1 x.1 x.2) e_slices_ContainsFuncint_int__gravity_CheckFilter_1 hC_slices_ContainsFuncint_int__gravity_CheckFilter_1 (tf_of (w_slices_ContainsFuncint_int__gravity_CheckFilter_1_eq x.1 x.2 (fun z => z = t_slices_ContainsFuncint_int__gravity_CheckFilter_1 x.1 x.2)) (d_slices_ContainsFuncint_int__gravity_CheckFilter_1 x.1 x.2 (fun z => z = t_slices_ContainsFuncint_int__gravity_CheckFilter_1 x.1 x.2) (pp_slices_ContainsFuncint_int__gravity_CheckFilter_1 x.1 x.2 hx) (tt_slices_ContainsFuncint_int__gravity_CheckFilter_1 x.1 x.2 hx)))⟩
/- gravity_unless -/
def C_gravity_unless : Cons := []
theorem hC_gravity_unless : ConsOk Tryd.prog C_gravity_unless := ConsOk.nil
def w_gravity_unless (p0 : Bool) (p1 : Int) (K : Int → Prop) : Prop :=
  (((p0 = true) →
  (K (0 : Int))) ∧
  ((p0 = false) →
  (K p1)))
set_option maxHeartbeats 4000000 in
theorem w_gravity_unless_eq (p0 : Bool) (p1 : Int) (K : Int → Prop) : tfn F_gravity_unless A_gravity_unless C_gravity_unless P_gravity_unless R_gravity_unless (p0, p1) K = w_gravity_unless p0 p1 K := by kernel_rfl
def s_gravity_unless (p0 : Bool) (p1 : Int) : Int :=
  (cond p0 (0 : Int)
    p1)
abbrev pre_gravity_unless (p0 : Bool) (p1 : Int) : List Prop := []
set_option maxHeartbeats 4000000 in
theorem d_gravity_unless (p0 : Bool) (p1 : Int) (K : Int → Prop) (hp : ∀ p ∈ pre_gravity_unless p0 p1, p) (h : K (s_gravity_unless p0 p1)) : w_gravity_unless p0 p1 K := by
  unfold w_gravity_unless
  unfold s_gravity_unless at h
  exact (br' h (fun e0 h => h)
    (fun e0 h => h))
abbrev con_gravity_unless : Con := ⟨P_gravity_unless, R_gravity_unless, fun x => pre_gravity_unless x.1 x.2, fun x => s_gravity_unless x.1 x.2⟩
theorem ok_gravity_unless : ConOk Tryd.prog 89 con_gravity_unless := ⟨k_gravity_unless, fun x hx => ret_tf (ps := P_gravity_unless) (rs := R_gravity_unless) (x := x) (y := s_gravity_unless x.1 x.2) e_gravity_unless hC_gravity_unless (tf_of (w_gravity_unless_eq x.1 x.2 (fun z => z = s_gravity_unless x.1 x.2)) (d_gravity_unless x.1 x.2 (fun z => z = s_gravity_unless x.1 x.2) hx rfl))⟩
theorem tx_unless0' {a : Bool} {x : Int} (hx : x ≠ 0) (h : s_gravity_unless a x = 0) : a = true := by
  cases a
  · exact (hx h).elim
  · rfl
/- gravity_first -/
def C_gravity_first : Cons := []
theorem hC_gravity_first : ConsOk Tryd.prog C_gravity_first := ConsOk.nil
def w_gravity_first (p0 : (List Int)) (K : Int → Prop) : Prop :=
  (∃ n0, (loopP (fun (y1 : Int) k2 =>
    ((((decide (y1 < (((List.length p0) : Nat) : Int))) = true) →
    (((0 : Int) ≤ y1) ∧
      ((y1 < (((List.length p0) : Nat) : Int)) ∧
      (((((List.getD p0 (Int.toNat y1) (0 : Int)) != (0 : Int)) = true) →
      (K (List.getD p0 (Int.toNat y1) (0 : Int)))) ∧
      ((((List.getD p0 (Int.toNat y1) (0 : Int)) != (0 : Int)) = false) →
      (k2 (Go.IntKind.wrap .i64 (y1 + (1 : Int))))))))) ∧
    (((decide (y1 < (((List.length p0) : Nat) : Int))) = false) →
    (K (0 : Int))))) n0 (0 : Int)))
set_option maxHeartbeats 4000000 in
theorem w_gravity_first_eq (p0 : (List Int)) (K : Int → Prop) : tfn F_gravity_first A_gravity_first C_gravity_first P_gravity_first R_gravity_first p0 K = w_gravity_first p0 K := by kernel_rfl
def st_gravity_first_0 (p0 : (List Int)) (y0 : Int) : Int ⊕ Int :=
  (cond (decide (y0 < (((List.length p0) : Nat) : Int))) (cond ((List.getD p0 (Int.toNat y0) (0 : Int)) != (0 : Int)) (Sum.inr (List.getD p0 (Int.toNat y0) (0 : Int)))
    (Sum.inl (Go.IntKind.wrap .i64 (y0 + (1 : Int)))))
    (Sum.inr (0 : Int)))
abbrev sp_gravity_first_0 (p0 : (List Int)) (y0 : Int) : List Prop := [(((decide (y0 < (((List.length p0) : Nat) : Int))) = true) → ((0 : Int) ≤ y0)),
    (((decide (y0 < (((List.length p0) : Nat) : Int))) = true) → (y0 < (((List.length p0) : Nat) : Int)))]
def s_gravity_first (p0 : (List Int)) : Int :=
  (lpv (0 : Int) (st_gravity_first_0 p0) (0 : Int))
abbrev pre_gravity_first (p0 : (List Int)) : List Prop := [(OkL (st_gravity_first_0 p0) (sp_gravity_first_0 p0) (0 : Int))]
set_option maxHeartbeats 4000000 in
theorem d_gravity_first (p0 : (List Int)) (K : Int → Prop) (hp : ∀ p ∈ pre_gravity_first p0, p) (h : K (s_gravity_first p0)) : w_gravity_first p0 K := by
  unfold w_gravity_first
  unfold s_gravity_first at h
  obtain ⟨hp0, _⟩ := conj_of hp
  exact (loop_gen (hp0) h (fun y0 k0 hp h => by
  unfold st_gravity_first_0 at h; obtain ⟨hp0, hp1, _⟩ := conj_of hp
  exact (br' h (fun e1 h => ⟨(hp0 e1), ⟨(hp1 e1), (br' h (fun e2 h => h)
    (fun e2 h => h))⟩⟩)
    (fun e1 h => h))))
theorem l_gravity_first_0 (p0 : List Int) (hl : lenOk p0) : OkL (st_gravity_first_0 p0) (sp_gravity_first_0 p0) 0 ∧ lpv (0 : Int) (st_gravity_first_0 p0) 0 = v_scan (fun _ x => cond (x != 0) (some x) none) (0 : Int) 0 p0 := by
  refine scan_is p0 0 (fun _ x => cond (x != 0) (some x) none) (0 : Int) hl ?_ ?_
  · refine ⟨by simp only [sp_gravity_first_0, List.forall_mem_cons, decide_eq_true_eq]; simp, by simp [st_gravity_first_0]⟩
  · intro j hj
    have hj' : (j : Int) < p0.length := by omega
    refine ⟨by simp only [sp_gravity_first_0, List.forall_mem_cons, decide_eq_true_eq, Int.toNat_natCast]; simp <;> omega, ?_⟩
    simp only [st_gravity_first_0, hj', decide_true, Int.toNat_natCast, cond_true, wrap_nat (show (j : Int) ≤ 9223372036854775806 by unfold lenOk at hl; omega)]
    generalize p0.getD j 0 = x
    cases (x != 0) <;> rfl
abbrev t_gravity_first (p0 : List Int) : Int := v_first p0
abbrev qre_gravity_first (p0 : List Int) : List Prop := [lenOk p0]
theorem pp_gravity_first (p0 : List Int) (hq : ∀ p ∈ qre_gravity_first p0, p) : ∀ p ∈ pre_gravity_first p0, p := by
  simp only [pre_gravity_first, List.forall_mem_cons]
  exact ⟨(l_gravity_first_0 p0 (conj_of hq).1).1, by simp⟩
theorem tt_gravity_first (p0 : List Int) (hq : ∀ p ∈ qre_gravity_first p0, p) : s_gravity_first p0 = t_gravity_first p0 := by
  exact (l_gravity_first_0 p0 (conj_of hq).1).2.trans (v_first_scan p0 0)

abbrev con_gravity_first : Con := ⟨P_gravity_first, R_gravity_first, fun x => qre_gravity_first x, fun x => t_gravity_first x⟩
theorem ok_gravity_first : ConOk Tryd.prog 88 con_gravity_first := ⟨k_gravity_first, fun x hx => ret_tf (ps := P_gravity_first) (rs := R_gravity_first) (x := x) (y := t_gravity_first x) e_gravity_first hC_gravity_first (tf_of (w_gravity_first_eq x (fun z => z = t_gravity_first x)) (d_gravity_first x (fun z => z = t_gravity_first x) (pp_gravity_first x hx) (tt_gravity_first x hx)))⟩
/- slices_Cloneint_int -/
def C_slices_Cloneint_int : Cons := []
theorem hC_slices_Cloneint_int : ConsOk Tryd.prog C_slices_Cloneint_int := ConsOk.nil
def w_slices_Cloneint_int (p0 : (List Int)) (K : (List Int) → Prop) : Prop :=
  ((((List.length p0) = 0) →
  (K ([] : List Int))) ∧
  (((((List.length ([] : List Int)) + (List.length p0)) * 8) ≤ 140737488355328) ∧
  (K (([] : List Int) ++ p0))))
set_option maxHeartbeats 4000000 in
theorem w_slices_Cloneint_int_eq (p0 : (List Int)) (K : (List Int) → Prop) : tfnO F_slices_Cloneint_int A_slices_Cloneint_int C_slices_Cloneint_int P_slices_Cloneint_int E_slices_Cloneint_int p0 K = w_slices_Cloneint_int p0 K := by kernel_rfl
def s_slices_Cloneint_int (p0 : List Int) : List Int := p0
abbrev pre_slices_Cloneint_int (p0 : List Int) : List Prop := [p0.length ≤ 1000000]
theorem d_slices_Cloneint_int (p0 : List Int) (K : List Int → Prop) (hp : ∀ p ∈ pre_slices_Cloneint_int p0, p) (h : K (s_slices_Cloneint_int p0)) : w_slices_Cloneint_int p0 K := by
  have h1 := (conj_of hp).1
  refine ⟨fun e => ?_, by simp only [List.length_nil]; omega, h⟩
  have : p0 = [] := List.eq_nil_of_length_eq_zero e
  subst this; exact h

abbrev con_slices_Cloneint_int : Con := ⟨P_slices_Cloneint_int, [.one (.sl E_slices_Cloneint_int)], fun x => pre_slices_Cloneint_int x, fun x => s_slices_Cloneint_int x⟩
theorem ok_slices_Cloneint_int : ConOOk Tryd.prog 125 con_slices_Cloneint_int := conO_tf (e := E_slices_Cloneint_int) (ps := P_slices_Cloneint_int) k_slices_Cloneint_int e_slices_Cloneint_int hC_slices_Cloneint_int (fun x hx => tfo_of (w_slices_Cloneint_int_eq x (fun z => z = s_slices_Cloneint_int x)) (d_slices_Cloneint_int x (fun z => z = s_slices_Cloneint_int x) hx rfl))
/- slices_Reverseint_int -/
def C_slices_Reverseint_int : Cons := []
theorem hC_slices_Reverseint_int : ConsOk Tryd.prog C_slices_Reverseint_int := ConsOk.nil
def w_slices_Reverseint_int (p0 : (List Int)) (K : (List Int) → Prop) : Prop :=
  (∃ n0, (loopP (fun (y1 : (Int × (Int × (List Int)))) k2 =>
    ((((decide (y1.2.1 < y1.1)) = true) →
    (((0 : Int) ≤ y1.1) ∧
      ((y1.1 < (((List.length y1.2.2) : Nat) : Int)) ∧
      (((0 : Int) ≤ y1.2.1) ∧
      ((y1.2.1 < (((List.length y1.2.2) : Nat) : Int)) ∧
      (((0 : Int) ≤ y1.2.1) ∧
      ((y1.2.1 < (((List.length y1.2.2) : Nat) : Int)) ∧
      (((0 : Int) ≤ y1.1) ∧
      ((y1.1 < (((List.length (List.set y1.2.2 (Int.toNat y1.2.1) (List.getD y1.2.2 (Int.toNat y1.1) (0 : Int)))) : Nat) : Int)) ∧
      (k2 ((Go.IntKind.wrap .i64 (y1.1 - (1 : Int))), ((Go.IntKind.wrap .i64 (y1.2.1 + (1 : Int))), (List.set (List.set y1.2.2 (Int.toNat y1.2.1) (List.getD y1.2.2 (Int.toNat y1.1) (0 : Int))) (Int.toNat y1.1) (List.getD y1.2.2 (Int.toNat y1.2.1) (0 : Int))))))))))))))) ∧
    (((decide (y1.2.1 < y1.1)) = false) →
    (K y1.2.2)))) n0 ((Go.IntKind.wrap .i64 ((((List.length p0) : Nat) : Int) - (1 : Int))), ((0 : Int), p0))))
set_option maxHeartbeats 4000000 in
theorem w_slices_Reverseint_int_eq (p0 : (List Int)) (K : (List Int) → Prop) : tfnN F_slices_Reverseint_int A_slices_Reverseint_int C_slices_Reverseint_int 1 P_slices_Reverseint_int R_slices_Reverseint_int p0 K = w_slices_Reverseint_int p0 K := by kernel_rfl
def st_slices_Reverseint_int_0 (p0 : (List Int)) (y0 : (Int × (Int × (List Int)))) : (Int × (Int × (List Int))) ⊕ (List Int) :=
  (cond (decide (y0.2.1 < y0.1)) (Sum.inl ((Go.IntKind.wrap .i64 (y0.1 - (1 : Int))), ((Go.IntKind.wrap .i64 (y0.2.1 + (1 : Int))), (List.set (List.set y0.2.2 (Int.toNat y0.2.1) (List.getD y0.2.2 (Int.toNat y0.1) (0 : Int))) (Int.toNat y0.1) (List.getD y0.2.2 (Int.toNat y0.2.1) (0 : Int))))))
    (Sum.inr y0.2.2))
abbrev sp_slices_Reverseint_int_0 (p0 : (List Int)) (y0 : (Int × (Int × (List Int)))) : List Prop := [(((decide (y0.2.1 < y0.1)) = true) → ((0 : Int) ≤ y0.1)),
    (((decide (y0.2.1 < y0.1)) = true) → (y0.1 < (((List.length y0.2.2) : Nat) : Int))),
    (((decide (y0.2.1 < y0.1)) = true) → ((0 : Int) ≤ y0.2.1)),
    (((decide (y0.2.1 < y0.1)) = true) → (y0.2.1 < (((List.length y0.2.2) : Nat) : Int))),
    (((decide (y0.2.1 < y0.1)) = true) → (y0.1 < (((List.length (List.set y0.2.2 (Int.toNat y0.2.1) (List.getD y0.2.2 (Int.toNat y0.1) (0 : Int)))) : Nat) : Int)))]
def s_slices_Reverseint_int (p0 : (List Int)) : (List Int) :=
  (lpv [] (st_slices_Reverseint_int_0 p0) ((Go.IntKind.wrap .i64 ((((List.length p0) : Nat) : Int) - (1 : Int))), ((0 : Int), p0)))
abbrev pre_slices_Reverseint_int (p0 : (List Int)) : List Prop := [(OkL (st_slices_Reverseint_int_0 p0) (sp_slices_Reverseint_int_0 p0) ((Go.IntKind.wrap .i64 ((((List.length p0) : Nat) : Int) - (1 : Int))), ((0 : Int), p0)))]
set_option maxHeartbeats 4000000 in
theorem d_slices_Reverseint_int (p0 : (List Int)) (K : (List Int) → Prop) (hp : ∀ p ∈ pre_slices_Reverseint_int p0, p) (h : K (s_slices_Reverseint_int p0)) : w_slices_Reverseint_int p0 K := by
  unfold w_slices_Reverseint_int
  unfold s_slices_Reverseint_int at h
  obtain ⟨hp0, _⟩ := conj_of hp
  exact (loop_gen (hp0) h (fun y0 k0 hp h => by
  unfold st_slices_Reverseint_int_0 at h; obtain ⟨hp0, hp1, hp2, hp3, hp4, _⟩ := conj_of hp
  exact (br' h (fun e1 h => ⟨(hp0 e1), ⟨(hp1 e1), ⟨(hp2 e1), ⟨(hp3 e1), ⟨(hp2 e1), ⟨(hp3 e1), ⟨(hp0 e1), ⟨(hp4 e1), h⟩⟩⟩⟩⟩⟩⟩⟩)
    (fun e1 h => h))))
def v_rev (l : List Int) : List Int := l.reverse
theorem l_slices_Reverseint_int (p0 : List Int) (h : p0.length ≤ 1000000) : OkL (st_slices_Reverseint_int_0 p0) (sp_slices_Reverseint_int_0 p0) ((Go.IntKind.wrap .i64 ((((List.length p0) : Nat) : Int) - (1 : Int))), ((0 : Int), p0)) ∧ s_slices_Reverseint_int p0 = p0.reverse := by
  unfold s_slices_Reverseint_int
  rw [wrap_id (show -9223372036854775808 ≤ (p0.length : Int) - 1 by omega) (by omega)]
  refine loop_is (fun y : Int × Int × List Int => ∃ i : Nat, y.2.1 = i ∧ y.1 = p0.length - 1 - i ∧ 2 * i ≤ p0.length + 1 ∧ y.2.2.length = p0.length ∧ ∀ k, k < p0.length → y.2.2.getD k 0 = p0.getD (if k < i ∨ p0.length ≤ k + i then p0.length - 1 - k else k) 0) (fun y => (y.1 + 1).toNat) (fun _ => p0.reverse) ?_ ⟨0, rfl, by simp, by omega, rfl, fun k hk => by rw [if_neg (by omega)]⟩ (by unfold fuel; simp only; omega)
  rintro ⟨j, i', l⟩ ⟨i, h1, h2, h3, h4, h5⟩
  simp only at h1 h2 h4 h5
  subst h1
  by_cases c : (i : Int) < j
  · obtain ⟨q, hq⟩ : ∃ q : Nat, j = q := ⟨j.toNat, by omega⟩
    subst hq
    refine ⟨by simp only [sp_slices_Reverseint_int_0, List.forall_mem_cons, List.length_set]; exact ⟨fun _ => by omega, fun _ => by omega, fun _ => by omega, fun _ => by omega, fun _ => by omega, by simp⟩, ?_⟩
    simp only [st_slices_Reverseint_int_0, c, decide_true, cond_true, Int.toNat_natCast, wrap_nat (show (i : Int) ≤ 9223372036854775806 by omega), wrap_id (show -9223372036854775808 ≤ (q : Int) - 1 by omega) (show (q : Int) - 1 ≤ 9223372036854775807 by omega)]
    refine ⟨⟨i + 1, rfl, by omega, by omega, by simp [h4], fun k hk => ?_⟩, by omega, trivial⟩
    rw [gd_set (by simp; omega), gd_set (by omega)]
    by_cases k1 : k = q
    · rw [if_pos k1, h5 i (by omega), if_neg (by omega), if_pos (by omega)]
      congr 1; omega
    · rw [if_neg k1]
      by_cases k2 : k = i
      · rw [if_pos k2, h5 q (by omega), if_neg (by omega), if_pos (by omega)]
        congr 1; omega
      · rw [if_neg k2, h5 k hk]
        by_cases k3 : k < i ∨ p0.length ≤ k + i
        · rw [if_pos k3, if_pos (by omega)]
        · rw [if_neg k3, if_neg (by omega)]
  · refine ⟨by simp only [sp_slices_Reverseint_int_0, List.forall_mem_cons, c, decide_false]; simp, ?_⟩
    simp only [st_slices_Reverseint_int_0, c, decide_false, cond_false]
    refine gd_ext 0 (by simp [h4]) fun k hk => ?_
    rw [List.length_reverse] at hk
    rw [gd_rev hk, h5 k hk]
    by_cases k3 : k < i ∨ p0.length ≤ k + i
    · rw [if_pos k3]
    · rw [if_neg k3]; congr 1; omega
abbrev t_slices_Reverseint_int (p0 : List Int) : List Int := v_rev p0
abbrev qre_slices_Reverseint_int (p0 : List Int) : List Prop := [p0.length ≤ 1000000]
theorem pp_slices_Reverseint_int (p0 : List Int) (hq : ∀ p ∈ qre_slices_Reverseint_int p0, p) : ∀ p ∈ pre_slices_Reverseint_int p0, p := by
  simp only [pre_slices_Reverseint_int, List.forall_mem_cons]
  exact ⟨(l_slices_Reverseint_int p0 (conj_of hq).1).1, by simp⟩
theorem tt_slices_Reverseint_int (p0 : List Int) (hq : ∀ p ∈ qre_slices_Reverseint_int p0, p) : s_slices_Reverseint_int p0 = t_slices_Reverseint_int p0 := by
  exact (l_slices_Reverseint_int p0 (conj_of hq).1).2
theorem hl_slices_Reverseint_int (p0 : List Int) (_ : ∀ p ∈ qre_slices_Reverseint_int p0, p) : ((valPs R_slices_Reverseint_int (t_slices_Reverseint_int p0)).drop (R_slices_Reverseint_int.length - 1)).map (fun v => (slEs v).length) = ((valPs P_slices_Reverseint_int p0).drop (P_slices_Reverseint_int.length - 1)).map (fun v => (slEs v).length) := by
  simp [valPs, valP, slEs, Ty.enc, t_slices_Reverseint_int, v_rev]

abbrev con_slices_Reverseint_int : Con := ⟨P_slices_Reverseint_int, R_slices_Reverseint_int, fun x => qre_slices_Reverseint_int x, fun x => t_slices_Reverseint_int x⟩
theorem ok_slices_Reverseint_int : ConNOk Tryd.prog 129 1 con_slices_Reverseint_int := conN_tf k_slices_Reverseint_int e_slices_Reverseint_int hC_slices_Reverseint_int con_slices_Reverseint_int (by decide) (by decide) rfl rfl (fun x hx => tfN_of (w_slices_Reverseint_int_eq x (fun z => z = t_slices_Reverseint_int x)) (d_slices_Reverseint_int x (fun z => z = t_slices_Reverseint_int x) (pp_slices_Reverseint_int x hx) (tt_slices_Reverseint_int x hx))) (fun x hx => hl_slices_Reverseint_int x hx)
/- gravity_both -/
def C_gravity_both : Cons := [(125, ownMark, con_slices_Cloneint_int), (129, nMark 1, con_slices_Reverseint_int)]
theorem hC_gravity_both : ConsOk Tryd.prog C_gravity_both := ConsOk.consO ok_slices_Cloneint_int <| ConsOk.consN ok_slices_Reverseint_int <| ConsOk.nil
def w_gravity_both (p0 : (List Int)) (K : (List Int) → Prop) : Prop :=
  (((List.length p0) ≤ 1000000) ∧
  ((0 < (List.length p0)) ∧
  (((List.length p0) ≤ 1000000) ∧
  (((0 : Int) ≤ (1 : Int)) ∧
  (((1 : Int) ≤ (((List.length p0) : Nat) : Int)) ∧
  (((((List.length (v_rev p0)) + (List.length (List.drop (Int.toNat (1 : Int)) p0))) * 8) ≤ 140737488355328) ∧
  (K ((v_rev p0) ++ (List.drop (Int.toNat (1 : Int)) p0)))))))))
set_option maxHeartbeats 4000000 in
theorem w_gravity_both_eq (p0 : (List Int)) (K : (List Int) → Prop) : tfnO F_gravity_both A_gravity_both C_gravity_both P_gravity_both E_gravity_both p0 K = w_gravity_both p0 K := by kernel_rfl
def s_gravity_both (p0 : (List Int)) : (List Int) :=
  ((v_rev p0) ++ (List.drop (Int.toNat (1 : Int)) p0))
abbrev pre_gravity_both (p0 : (List Int)) : List Prop := [((List.length p0) ≤ 1000000),
    (0 < (List.length p0)),
    ((1 : Int) ≤ (((List.length p0) : Nat) : Int)),
    ((((List.length (v_rev p0)) + (List.length (List.drop (Int.toNat (1 : Int)) p0))) * 8) ≤ 140737488355328)]
set_option maxHeartbeats 4000000 in
theorem d_gravity_both (p0 : (List Int)) (K : (List Int) → Prop) (hp : ∀ p ∈ pre_gravity_both p0, p) (h : K (s_gravity_both p0)) : w_gravity_both p0 K := by
  unfold w_gravity_both
  unfold s_gravity_both at h
  obtain ⟨hp0, hp1, hp2, hp3, _⟩ := conj_of hp
  exact ⟨(hp0), ⟨(hp1), ⟨(hp0), ⟨(of_decide_eq_true rfl), ⟨(hp2), ⟨(hp3), h⟩⟩⟩⟩⟩⟩
/-- The weight of a neighbour on either side, 0 beyond the last one. -/
def v_at (f : List Int) (k : Int) : Int := f.getD k.natAbs 0
theorem v_at_out {f : List Int} {k : Int} (h : f.length ≤ k.natAbs) : v_at f k = 0 := gd_out _ h
theorem v_at_in {f : List Int} {m : Int} (hm : 0 ≤ m) (h : ∀ x ∈ f, -m ≤ x ∧ x ≤ m) (k : Int) : -m ≤ v_at f k ∧ v_at f k ≤ m := by
  by_cases c : k.natAbs < f.length
  · exact h _ (getD_mem' 0 c)
  · rw [v_at_out (by omega)]; omega
/-- The weights on both sides. -/
def v_both (f : List Int) : List Int := f.reverse ++ f.drop 1
theorem v_both_len {f : List Int} (h : 1 ≤ f.length) : (v_both f).length = 2 * f.length - 1 := by simp [v_both]; omega
theorem v_both_at {f : List Int} {k : Nat} (h : k < 2 * f.length - 1) : (v_both f).getD k 0 = v_at f ((k : Int) - ((f.length : Int) - 1)) := by
  unfold v_both v_at
  rw [gd_app, List.length_reverse]
  by_cases c : k < f.length
  · rw [if_pos c, gd_rev c]; congr 1; omega
  · rw [if_neg c, gd_drop]; congr 1; omega
/-- Weights. -/
structure v_fw (f : List Int) : Prop where
  one : 1 ≤ f.length
  nine : f.length ≤ 9
  all : ∀ x ∈ f, -100000 ≤ x ∧ x ≤ 100000
theorem v_fw.at {f : List Int} (h : v_fw f) (k : Int) : -100000 ≤ v_at f k ∧ v_at f k ≤ 100000 := v_at_in (by decide) h.all k
/-- The sum of a filter. -/
def v_fsum (f : List Int) : Int := v_sums (fun j => v_at f ((j : Int) - ((f.length : Int) - 1))) 0 (2 * f.length - 1)
abbrev t_gravity_both (p0 : List Int) : List Int := v_both p0
abbrev qre_gravity_both (p0 : List Int) : List Prop := [1 ≤ p0.length ∧ p0.length ≤ 1000000]
theorem pp_gravity_both (p0 : List Int) (hq : ∀ p ∈ qre_gravity_both p0, p) : ∀ p ∈ pre_gravity_both p0, p := by
  have h := (conj_of hq).1
  simp only [pre_gravity_both, List.forall_mem_cons]
  exact ⟨h.2, by omega, by omega, by simp [v_rev]; omega, by simp⟩
theorem tt_gravity_both (p0 : List Int) (hq : ∀ p ∈ qre_gravity_both p0, p) : s_gravity_both p0 = t_gravity_both p0 := by
  rfl

abbrev con_gravity_both : Con := ⟨P_gravity_both, [.one (.sl E_gravity_both)], fun x => qre_gravity_both x, fun x => t_gravity_both x⟩
theorem ok_gravity_both : ConOOk Tryd.prog 90 con_gravity_both := conO_tf (e := E_gravity_both) (ps := P_gravity_both) k_gravity_both e_gravity_both hC_gravity_both (fun x hx => tfo_of (w_gravity_both_eq x (fun z => z = t_gravity_both x)) (d_gravity_both x (fun z => z = t_gravity_both x) (pp_gravity_both x hx) (tt_gravity_both x hx)))
/- gravity_sum -/
def C_gravity_sum : Cons := [(90, ownMark, con_gravity_both)]
theorem hC_gravity_sum : ConsOk Tryd.prog C_gravity_sum := ConsOk.consO ok_gravity_both <| ConsOk.nil
def w_gravity_sum (p0 : (List Int)) (K : Int → Prop) : Prop :=
  (((1 ≤ (List.length p0)) ∧
  ((List.length p0) ≤ 1000000)) ∧
  (∃ n0, (loopP (fun (y1 : (Int × Int)) k2 =>
    ((((decide (y1.1 < (((List.length (v_both p0)) : Nat) : Int))) = true) →
    (((0 : Int) ≤ y1.1) ∧
      ((y1.1 < (((List.length (v_both p0)) : Nat) : Int)) ∧
      (k2 ((Go.IntKind.wrap .i64 (y1.1 + (1 : Int))), (Go.IntKind.wrap .i64 (y1.2 + (List.getD (v_both p0) (Int.toNat y1.1) (0 : Int))))))))) ∧
    (((decide (y1.1 < (((List.length (v_both p0)) : Nat) : Int))) = false) →
    (K y1.2)))) n0 ((0 : Int), (0 : Int)))))
set_option maxHeartbeats 4000000 in
theorem w_gravity_sum_eq (p0 : (List Int)) (K : Int → Prop) : tfn F_gravity_sum A_gravity_sum C_gravity_sum P_gravity_sum R_gravity_sum p0 K = w_gravity_sum p0 K := by kernel_rfl
def st_gravity_sum_0 (p0 : (List Int)) (y0 : (Int × Int)) : (Int × Int) ⊕ Int :=
  (cond (decide (y0.1 < (((List.length (v_both p0)) : Nat) : Int))) (Sum.inl ((Go.IntKind.wrap .i64 (y0.1 + (1 : Int))), (Go.IntKind.wrap .i64 (y0.2 + (List.getD (v_both p0) (Int.toNat y0.1) (0 : Int))))))
    (Sum.inr y0.2))
abbrev sp_gravity_sum_0 (p0 : (List Int)) (y0 : (Int × Int)) : List Prop := [(((decide (y0.1 < (((List.length (v_both p0)) : Nat) : Int))) = true) → ((0 : Int) ≤ y0.1)),
    (((decide (y0.1 < (((List.length (v_both p0)) : Nat) : Int))) = true) → (y0.1 < (((List.length (v_both p0)) : Nat) : Int)))]
def s_gravity_sum (p0 : (List Int)) : Int :=
  (lpv (0 : Int) (st_gravity_sum_0 p0) ((0 : Int), (0 : Int)))
abbrev pre_gravity_sum (p0 : (List Int)) : List Prop := [((1 ≤ (List.length p0)) ∧ ((List.length p0) ≤ 1000000)),
    (OkL (st_gravity_sum_0 p0) (sp_gravity_sum_0 p0) ((0 : Int), (0 : Int)))]
set_option maxHeartbeats 4000000 in
theorem d_gravity_sum (p0 : (List Int)) (K : Int → Prop) (hp : ∀ p ∈ pre_gravity_sum p0, p) (h : K (s_gravity_sum p0)) : w_gravity_sum p0 K := by
  unfold w_gravity_sum
  unfold s_gravity_sum at h
  obtain ⟨hp0, hp1, _⟩ := conj_of hp
  exact ⟨(hp0), (loop_gen (hp1) h (fun y0 k0 hp h => by
  unfold st_gravity_sum_0 at h; obtain ⟨hp0, hp1, _⟩ := conj_of hp
  exact (br' h (fun e1 h => ⟨(hp0 e1), ⟨(hp1 e1), h⟩⟩)
    (fun e1 h => h))))⟩
theorem l_gravity_sum (p0 : List Int) (h : v_fw p0) : OkL (st_gravity_sum_0 p0) (sp_gravity_sum_0 p0) (0, 0) ∧ s_gravity_sum p0 = v_fsum p0 := by
  have h1 := h.one
  have h2 := h.nine
  have hl := v_both_len h1
  refine for_is (fun i t => (i, t)) 0 (2 * p0.length - 1) (fun j t => t = v_sums (fun j => v_at p0 ((j : Int) - ((p0.length : Int) - 1))) 0 j) (fun _ _ => v_fsum p0) (by omega) (by omega) ?_ ?_ 0 rfl
  · intro t ht
    have hd : decide (((2 * p0.length - 1 : Nat) : Int) < ((v_both p0).length : Nat)) = false := decide_eq_false (by omega)
    refine ⟨by simp only [sp_gravity_sum_0, List.forall_mem_cons, hd]; simp, ?_⟩
    simp only [st_gravity_sum_0, hd, cond_false]
    rw [ht]; rfl
  · intro j t _ hj ht
    have hd : decide ((j : Int) < ((v_both p0).length : Nat)) = true := decide_eq_true (by omega)
    refine ⟨by simp only [sp_gravity_sum_0, List.forall_mem_cons, hd]; exact ⟨fun _ => by omega, fun _ => by omega, by simp⟩, .inl ⟨_, ?_, rfl, rfl⟩⟩
    have hb := v_sums_in (f := fun j => v_at p0 ((j : Int) - ((p0.length : Int) - 1))) (m := 100000) j 0 (fun k _ _ => h.at _)
    have ha := h.at ((j : Int) - ((p0.length : Int) - 1))
    simp only [st_gravity_sum_0, hd, cond_true, Int.toNat_natCast, wrap_nat (show (j : Int) ≤ 9223372036854775806 by omega)]
    rw [v_both_at hj, ht, v_sums_last, Nat.zero_add, wrap_id (by omega) (by omega)]
abbrev t_gravity_sum (p0 : List Int) : Int := v_fsum p0
abbrev qre_gravity_sum (p0 : List Int) : List Prop := [v_fw p0]
theorem pp_gravity_sum (p0 : List Int) (hq : ∀ p ∈ qre_gravity_sum p0, p) : ∀ p ∈ pre_gravity_sum p0, p := by
  have h := (conj_of hq).1
  have h1 := h.one
  have h2 := h.nine
  simp only [pre_gravity_sum, List.forall_mem_cons]
  exact ⟨by omega, (l_gravity_sum p0 h).1, by simp⟩
theorem tt_gravity_sum (p0 : List Int) (hq : ∀ p ∈ qre_gravity_sum p0, p) : s_gravity_sum p0 = t_gravity_sum p0 := by
  exact (l_gravity_sum p0 (conj_of hq).1).2

abbrev con_gravity_sum : Con := ⟨P_gravity_sum, R_gravity_sum, fun x => qre_gravity_sum x, fun x => t_gravity_sum x⟩
theorem ok_gravity_sum : ConOk Tryd.prog 116 con_gravity_sum := ⟨k_gravity_sum, fun x hx => ret_tf (ps := P_gravity_sum) (rs := R_gravity_sum) (x := x) (y := t_gravity_sum x) e_gravity_sum hC_gravity_sum (tf_of (w_gravity_sum_eq x (fun z => z = t_gravity_sum x)) (d_gravity_sum x (fun z => z = t_gravity_sum x) (pp_gravity_sum x hx) (tt_gravity_sum x hx)))⟩
/- gravity_CheckFilter -/
def C_gravity_CheckFilter : Cons := [(91, [121], con_slices_ContainsFuncint_int__gravity_CheckFilter_1), (89, [], con_gravity_unless), (88, [], con_gravity_first), (116, [], con_gravity_sum)]
theorem hC_gravity_CheckFilter : ConsOk Tryd.prog C_gravity_CheckFilter := ConsOk.cons ok_slices_ContainsFuncint_int__gravity_CheckFilter_1 <| ConsOk.cons ok_gravity_unless <| ConsOk.cons ok_gravity_first <| ConsOk.cons ok_gravity_sum <| ConsOk.nil
def w_gravity_CheckFilter (p0 : (List Int)) (K : Int → Prop) : Prop :=
  ((lenOk p0) ∧
  ((lenOk ((s_gravity_unless (decide ((((List.length p0) : Nat) : Int) > (0 : Int))) (10 : Int)) :: ((s_gravity_unless (decide ((((List.length p0) : Nat) : Int) ≤ (9 : Int))) (8 : Int)) :: ((s_gravity_unless (!(v_any_slices_ContainsFuncint_int__gravity_CheckFilter_1 p0)) (2 : Int)) :: ([] : List Int))))) ∧
  (((((v_first ((s_gravity_unless (decide ((((List.length p0) : Nat) : Int) > (0 : Int))) (10 : Int)) :: ((s_gravity_unless (decide ((((List.length p0) : Nat) : Int) ≤ (9 : Int))) (8 : Int)) :: ((s_gravity_unless (!(v_any_slices_ContainsFuncint_int__gravity_CheckFilter_1 p0)) (2 : Int)) :: ([] : List Int))))) != (0 : Int)) = true) →
  (K (v_first ((s_gravity_unless (decide ((((List.length p0) : Nat) : Int) > (0 : Int))) (10 : Int)) :: ((s_gravity_unless (decide ((((List.length p0) : Nat) : Int) ≤ (9 : Int))) (8 : Int)) :: ((s_gravity_unless (!(v_any_slices_ContainsFuncint_int__gravity_CheckFilter_1 p0)) (2 : Int)) :: ([] : List Int))))))) ∧
  ((((v_first ((s_gravity_unless (decide ((((List.length p0) : Nat) : Int) > (0 : Int))) (10 : Int)) :: ((s_gravity_unless (decide ((((List.length p0) : Nat) : Int) ≤ (9 : Int))) (8 : Int)) :: ((s_gravity_unless (!(v_any_slices_ContainsFuncint_int__gravity_CheckFilter_1 p0)) (2 : Int)) :: ([] : List Int))))) != (0 : Int)) = false) →
  ((v_fw p0) ∧
    (K (s_gravity_unless (decide ((v_fsum p0) > (0 : Int))) (11 : Int))))))))
set_option maxHeartbeats 4000000 in
theorem w_gravity_CheckFilter_eq (p0 : (List Int)) (K : Int → Prop) : tfn F_gravity_CheckFilter A_gravity_CheckFilter C_gravity_CheckFilter P_gravity_CheckFilter R_gravity_CheckFilter p0 K = w_gravity_CheckFilter p0 K := by kernel_rfl
def s_gravity_CheckFilter (p0 : (List Int)) : Int :=
  (cond ((v_first ((s_gravity_unless (decide ((((List.length p0) : Nat) : Int) > (0 : Int))) (10 : Int)) :: ((s_gravity_unless (decide ((((List.length p0) : Nat) : Int) ≤ (9 : Int))) (8 : Int)) :: ((s_gravity_unless (!(v_any_slices_ContainsFuncint_int__gravity_CheckFilter_1 p0)) (2 : Int)) :: ([] : List Int))))) != (0 : Int)) (v_first ((s_gravity_unless (decide ((((List.length p0) : Nat) : Int) > (0 : Int))) (10 : Int)) :: ((s_gravity_unless (decide ((((List.length p0) : Nat) : Int) ≤ (9 : Int))) (8 : Int)) :: ((s_gravity_unless (!(v_any_slices_ContainsFuncint_int__gravity_CheckFilter_1 p0)) (2 : Int)) :: ([] : List Int)))))
    (s_gravity_unless (decide ((v_fsum p0) > (0 : Int))) (11 : Int)))
abbrev pre_gravity_CheckFilter (p0 : (List Int)) : List Prop := [(lenOk p0),
    ((((v_first ((s_gravity_unless (decide ((((List.length p0) : Nat) : Int) > (0 : Int))) (10 : Int)) :: ((s_gravity_unless (decide ((((List.length p0) : Nat) : Int) ≤ (9 : Int))) (8 : Int)) :: ((s_gravity_unless (!(v_any_slices_ContainsFuncint_int__gravity_CheckFilter_1 p0)) (2 : Int)) :: ([] : List Int))))) != (0 : Int)) = false) → (v_fw p0))]
set_option maxHeartbeats 4000000 in
theorem d_gravity_CheckFilter (p0 : (List Int)) (K : Int → Prop) (hp : ∀ p ∈ pre_gravity_CheckFilter p0, p) (h : K (s_gravity_CheckFilter p0)) : w_gravity_CheckFilter p0 K := by
  unfold w_gravity_CheckFilter
  unfold s_gravity_CheckFilter at h
  obtain ⟨hp0, hp1, _⟩ := conj_of hp
  exact ⟨(hp0), ⟨(lenOk_of 3 rfl (by decide)), (br' h (fun e0 h => h)
    (fun e0 h => ⟨(hp1 e0), h⟩))⟩⟩
/-- The errors of weights alone. -/
def v_fw0 (p0 : List Int) : Int := v_first [s_gravity_unless (decide ((p0.length : Int) > 0)) 10, s_gravity_unless (decide ((p0.length : Int) ≤ 9)) 8, s_gravity_unless (!(v_any_slices_ContainsFuncint_int__gravity_CheckFilter_1 p0)) 2]
/-- The error of a filter. -/
def v_filerr (p0 : List Int) : Int := cond (v_fw0 p0 != 0) (v_fw0 p0) (s_gravity_unless (decide (v_fsum p0 > 0)) 11)
theorem tx_sized {x : Int} : s_gravity_isSized x 100000 = true ↔ -100000 ≤ x ∧ x ≤ 100000 := by
  unfold s_gravity_isSized
  rw [show IntKind.i64.wrap (0 - 100000) = -100000 from rfl]
  exact tx_within
theorem tx_fw {p0 : List Int} (h : v_fw0 p0 = 0) : v_fw p0 := by
  obtain ⟨h1, h⟩ := v_first0 h
  obtain ⟨h2, h⟩ := v_first0 h
  obtain ⟨h3, _⟩ := v_first0 h
  have g1 := of_decide_eq_true (tx_unless0' (by decide) h1)
  have g2 := of_decide_eq_true (tx_unless0' (by decide) h2)
  have g3 := tx_unless0' (by decide) h3
  refine ⟨by omega, by omega, fun x hx => ?_⟩
  have : p0.any s_gravity_CheckFilter_1 = false := by simpa [v_any_slices_ContainsFuncint_int__gravity_CheckFilter_1] using g3
  have := List.any_eq_false.1 this x hx
  exact tx_sized.1 (by simpa [s_gravity_CheckFilter_1] using this)
/-- A valid filter. -/
structure v_fok (f : List Int) : Prop extends v_fw f where
  pos : 0 < v_fsum f
theorem tx_fok {p0 : List Int} (h : v_filerr p0 = 0) : v_fok p0 := by
  unfold v_filerr at h
  rcases int0 (v_fw0 p0) with ⟨b1, b2, b3⟩ | ⟨b1, b2, b3⟩
  · rw [b2] at h
    exact ⟨tx_fw b1, of_decide_eq_true (tx_unless0' (by decide) h)⟩
  · rw [b2] at h; exact absurd h b1
abbrev t_gravity_CheckFilter (p0 : List Int) : Int := v_filerr p0
abbrev qre_gravity_CheckFilter (p0 : List Int) : List Prop := [lenOk p0]
theorem pp_gravity_CheckFilter (p0 : List Int) (hq : ∀ p ∈ qre_gravity_CheckFilter p0, p) : ∀ p ∈ pre_gravity_CheckFilter p0, p := by
  simp only [pre_gravity_CheckFilter, List.forall_mem_cons]
  exact ⟨(conj_of hq).1, fun h => tx_fw (bne0' h), by simp⟩
theorem tt_gravity_CheckFilter (p0 : List Int) (_ : ∀ p ∈ qre_gravity_CheckFilter p0, p) : s_gravity_CheckFilter p0 = t_gravity_CheckFilter p0 := rfl

abbrev con_gravity_CheckFilter : Con := ⟨P_gravity_CheckFilter, R_gravity_CheckFilter, fun x => qre_gravity_CheckFilter x, fun x => t_gravity_CheckFilter x⟩
theorem ok_gravity_CheckFilter : ConOk Tryd.prog 75 con_gravity_CheckFilter := ⟨k_gravity_CheckFilter, fun x hx => ret_tf (ps := P_gravity_CheckFilter) (rs := R_gravity_CheckFilter) (x := x) (y := t_gravity_CheckFilter x) e_gravity_CheckFilter hC_gravity_CheckFilter (tf_of (w_gravity_CheckFilter_eq x (fun z => z = t_gravity_CheckFilter x)) (d_gravity_CheckFilter x (fun z => z = t_gravity_CheckFilter x) (pp_gravity_CheckFilter x hx) (tt_gravity_CheckFilter x hx)))⟩
/- gravity_Composed_1 -/
def C_gravity_Composed_1 : Cons := [(93, [], con_gravity_isSized)]
theorem hC_gravity_Composed_1 : ConsOk Tryd.prog C_gravity_Composed_1 := ConsOk.cons ok_gravity_isSized <| ConsOk.nil
def w_gravity_Composed_1 (p0 : Int) (K : Bool → Prop) : Prop :=
  (K (!(s_gravity_isSized p0 (100000 : Int))))
set_option maxHeartbeats 4000000 in
theorem w_gravity_Composed_1_eq (p0 : Int) (K : Bool → Prop) : tfn F_gravity_Composed_1 A_gravity_Composed_1 C_gravity_Composed_1 P_gravity_Composed_1 R_gravity_Composed_1 p0 K = w_gravity_Composed_1 p0 K := by kernel_rfl
def s_gravity_Composed_1 (p0 : Int) : Bool :=
  (!(s_gravity_isSized p0 (100000 : Int)))
abbrev pre_gravity_Composed_1 (p0 : Int) : List Prop := []
set_option maxHeartbeats 4000000 in
theorem d_gravity_Composed_1 (p0 : Int) (K : Bool → Prop) (hp : ∀ p ∈ pre_gravity_Composed_1 p0, p) (h : K (s_gravity_Composed_1 p0)) : w_gravity_Composed_1 p0 K := by
  unfold w_gravity_Composed_1
  unfold s_gravity_Composed_1 at h
  exact h
abbrev con_gravity_Composed_1 : Con := ⟨P_gravity_Composed_1, R_gravity_Composed_1, fun x => pre_gravity_Composed_1 x, fun x => s_gravity_Composed_1 x⟩
theorem ok_gravity_Composed_1 : ConOk Tryd.prog 92 con_gravity_Composed_1 := ⟨k_gravity_Composed_1, fun x hx => ret_tf (ps := P_gravity_Composed_1) (rs := R_gravity_Composed_1) (x := x) (y := s_gravity_Composed_1 x) e_gravity_Composed_1 hC_gravity_Composed_1 (tf_of (w_gravity_Composed_1_eq x (fun z => z = s_gravity_Composed_1 x)) (d_gravity_Composed_1 x (fun z => z = s_gravity_Composed_1 x) hx rfl))⟩
/- slices_IndexFuncint_int__gravity_Composed_1 -/
def C_slices_IndexFuncint_int__gravity_Composed_1 : Cons := [(92, [], con_gravity_Composed_1)]
theorem hC_slices_IndexFuncint_int__gravity_Composed_1 : ConsOk Tryd.prog C_slices_IndexFuncint_int__gravity_Composed_1 := ConsOk.cons ok_gravity_Composed_1 <| ConsOk.nil
def w_slices_IndexFuncint_int__gravity_Composed_1 (p0 : (List Int)) (p1 : PUnit) (K : Int → Prop) : Prop :=
  (∃ n0, (loopP (fun (y1 : Int) k2 =>
    ((((decide (y1 < (((List.length p0) : Nat) : Int))) = true) →
    (((0 : Int) ≤ y1) ∧
      ((y1 < (((List.length p0) : Nat) : Int)) ∧
      ((((s_gravity_Composed_1 (List.getD p0 (Int.toNat y1) (0 : Int))) = true) →
      (K y1)) ∧
      (((s_gravity_Composed_1 (List.getD p0 (Int.toNat y1) (0 : Int))) = false) →
      (k2 (Go.IntKind.wrap .i64 (y1 + (1 : Int))))))))) ∧
    (((decide (y1 < (((List.length p0) : Nat) : Int))) = false) →
    (K (-1 : Int))))) n0 (0 : Int)))
set_option maxHeartbeats 4000000 in
theorem w_slices_IndexFuncint_int__gravity_Composed_1_eq (p0 : (List Int)) (p1 : PUnit) (K : Int → Prop) : tfn F_slices_IndexFuncint_int__gravity_Composed_1 A_slices_IndexFuncint_int__gravity_Composed_1 C_slices_IndexFuncint_int__gravity_Composed_1 P_slices_IndexFuncint_int__gravity_Composed_1 R_slices_IndexFuncint_int__gravity_Composed_1 (p0, p1) K = w_slices_IndexFuncint_int__gravity_Composed_1 p0 p1 K := by kernel_rfl
def st_slices_IndexFuncint_int__gravity_Composed_1_0 (p0 : (List Int)) (p1 : PUnit) (y0 : Int) : Int ⊕ Int :=
  (cond (decide (y0 < (((List.length p0) : Nat) : Int))) (cond (s_gravity_Composed_1 (List.getD p0 (Int.toNat y0) (0 : Int))) (Sum.inr y0)
    (Sum.inl (Go.IntKind.wrap .i64 (y0 + (1 : Int)))))
    (Sum.inr (-1 : Int)))
abbrev sp_slices_IndexFuncint_int__gravity_Composed_1_0 (p0 : (List Int)) (p1 : PUnit) (y0 : Int) : List Prop := [(((decide (y0 < (((List.length p0) : Nat) : Int))) = true) → ((0 : Int) ≤ y0)),
    (((decide (y0 < (((List.length p0) : Nat) : Int))) = true) → (y0 < (((List.length p0) : Nat) : Int)))]
def s_slices_IndexFuncint_int__gravity_Composed_1 (p0 : (List Int)) (p1 : PUnit) : Int :=
  (lpv (0 : Int) (st_slices_IndexFuncint_int__gravity_Composed_1_0 p0 p1) (0 : Int))
abbrev pre_slices_IndexFuncint_int__gravity_Composed_1 (p0 : (List Int)) (p1 : PUnit) : List Prop := [(OkL (st_slices_IndexFuncint_int__gravity_Composed_1_0 p0 p1) (sp_slices_IndexFuncint_int__gravity_Composed_1_0 p0 p1) (0 : Int))]
set_option maxHeartbeats 4000000 in
theorem d_slices_IndexFuncint_int__gravity_Composed_1 (p0 : (List Int)) (p1 : PUnit) (K : Int → Prop) (hp : ∀ p ∈ pre_slices_IndexFuncint_int__gravity_Composed_1 p0 p1, p) (h : K (s_slices_IndexFuncint_int__gravity_Composed_1 p0 p1)) : w_slices_IndexFuncint_int__gravity_Composed_1 p0 p1 K := by
  unfold w_slices_IndexFuncint_int__gravity_Composed_1
  unfold s_slices_IndexFuncint_int__gravity_Composed_1 at h
  obtain ⟨hp0, _⟩ := conj_of hp
  exact (loop_gen (hp0) h (fun y0 k0 hp h => by
  unfold st_slices_IndexFuncint_int__gravity_Composed_1_0 at h; obtain ⟨hp0, hp1, _⟩ := conj_of hp
  exact (br' h (fun e1 h => ⟨(hp0 e1), ⟨(hp1 e1), (br' h (fun e2 h => h)
    (fun e2 h => h))⟩⟩)
    (fun e1 h => h))))
theorem l_slices_IndexFuncint_int__gravity_Composed_1_0 (p0 : List Int) (p1 : PUnit) (hl : lenOk p0) : OkL (st_slices_IndexFuncint_int__gravity_Composed_1_0 p0 p1) (sp_slices_IndexFuncint_int__gravity_Composed_1_0 p0 p1) 0 ∧ lpv (0 : Int) (st_slices_IndexFuncint_int__gravity_Composed_1_0 p0 p1) 0 = v_scan (fun i x => cond (s_gravity_Composed_1 x) (some i) none) (-1 : Int) 0 p0 := by
  refine scan_is p0 0 (fun i x => cond (s_gravity_Composed_1 x) (some i) none) (-1 : Int) hl ?_ ?_
  · refine ⟨by simp only [sp_slices_IndexFuncint_int__gravity_Composed_1_0, List.forall_mem_cons, decide_eq_true_eq]; simp, by simp [st_slices_IndexFuncint_int__gravity_Composed_1_0]⟩
  · intro j hj
    have hj' : (j : Int) < p0.length := by omega
    refine ⟨by simp only [sp_slices_IndexFuncint_int__gravity_Composed_1_0, List.forall_mem_cons, decide_eq_true_eq, Int.toNat_natCast]; simp <;> omega, ?_⟩
    simp only [st_slices_IndexFuncint_int__gravity_Composed_1_0, hj', decide_true, Int.toNat_natCast, cond_true, wrap_nat (show (j : Int) ≤ 9223372036854775806 by unfold lenOk at hl; omega)]
    generalize p0.getD j 0 = x
    cases s_gravity_Composed_1 x <;> rfl
def v_idx_slices_IndexFuncint_int__gravity_Composed_1 (p0 : List Int) : Int := v_scan (fun i x => cond (s_gravity_Composed_1 x) (some i) none) (-1) 0 p0
abbrev t_slices_IndexFuncint_int__gravity_Composed_1 (p0 : List Int) (p1 : PUnit) : Int := v_idx_slices_IndexFuncint_int__gravity_Composed_1 p0
abbrev qre_slices_IndexFuncint_int__gravity_Composed_1 (p0 : List Int) (p1 : PUnit) : List Prop := [lenOk p0]
theorem pp_slices_IndexFuncint_int__gravity_Composed_1 (p0 : List Int) (p1 : PUnit) (hq : ∀ p ∈ qre_slices_IndexFuncint_int__gravity_Composed_1 p0 p1, p) : ∀ p ∈ pre_slices_IndexFuncint_int__gravity_Composed_1 p0 p1, p := by
  simp only [pre_slices_IndexFuncint_int__gravity_Composed_1, List.forall_mem_cons]
  exact ⟨(l_slices_IndexFuncint_int__gravity_Composed_1_0 p0 p1 (conj_of hq).1).1, by simp⟩
theorem tt_slices_IndexFuncint_int__gravity_Composed_1 (p0 : List Int) (p1 : PUnit) (hq : ∀ p ∈ qre_slices_IndexFuncint_int__gravity_Composed_1 p0 p1, p) : s_slices_IndexFuncint_int__gravity_Composed_1 p0 p1 = t_slices_IndexFuncint_int__gravity_Composed_1 p0 p1 := by
  exact (l_slices_IndexFuncint_int__gravity_Composed_1_0 p0 p1 (conj_of hq).1).2

abbrev con_slices_IndexFuncint_int__gravity_Composed_1 : Con := ⟨P_slices_IndexFuncint_int__gravity_Composed_1, R_slices_IndexFuncint_int__gravity_Composed_1, fun x => qre_slices_IndexFuncint_int__gravity_Composed_1 x.1 x.2, fun x => t_slices_IndexFuncint_int__gravity_Composed_1 x.1 x.2⟩
theorem ok_slices_IndexFuncint_int__gravity_Composed_1 : ConOk Tryd.prog 107 con_slices_IndexFuncint_int__gravity_Composed_1 := ⟨k_slices_IndexFuncint_int__gravity_Composed_1, fun x hx => ret_tf (ps := P_slices_IndexFuncint_int__gravity_Composed_1) (rs := R_slices_IndexFuncint_int__gravity_Composed_1) (x := x) (y := t_slices_IndexFuncint_int__gravity_Composed_1 x.1 x.2) e_slices_IndexFuncint_int__gravity_Composed_1 hC_slices_IndexFuncint_int__gravity_Composed_1 (tf_of (w_slices_IndexFuncint_int__gravity_Composed_1_eq x.1 x.2 (fun z => z = t_slices_IndexFuncint_int__gravity_Composed_1 x.1 x.2)) (d_slices_IndexFuncint_int__gravity_Composed_1 x.1 x.2 (fun z => z = t_slices_IndexFuncint_int__gravity_Composed_1 x.1 x.2) (pp_slices_IndexFuncint_int__gravity_Composed_1 x.1 x.2 hx) (tt_slices_IndexFuncint_int__gravity_Composed_1 x.1 x.2 hx)))⟩
/- slices_ContainsFuncint_int__gravity_Composed_1 -/
def C_slices_ContainsFuncint_int__gravity_Composed_1 : Cons := [(107, [92], con_slices_IndexFuncint_int__gravity_Composed_1)]
theorem hC_slices_ContainsFuncint_int__gravity_Composed_1 : ConsOk Tryd.prog C_slices_ContainsFuncint_int__gravity_Composed_1 := ConsOk.cons ok_slices_IndexFuncint_int__gravity_Composed_1 <| ConsOk.nil
def w_slices_ContainsFuncint_int__gravity_Composed_1 (p0 : (List Int)) (p1 : PUnit) (K : Bool → Prop) : Prop :=
  ((lenOk p0) ∧
  (K (decide ((v_idx_slices_IndexFuncint_int__gravity_Composed_1 p0) ≥ (0 : Int)))))
set_option maxHeartbeats 4000000 in
theorem w_slices_ContainsFuncint_int__gravity_Composed_1_eq (p0 : (List Int)) (p1 : PUnit) (K : Bool → Prop) : tfn F_slices_ContainsFuncint_int__gravity_Composed_1 A_slices_ContainsFuncint_int__gravity_Composed_1 C_slices_ContainsFuncint_int__gravity_Composed_1 P_slices_ContainsFuncint_int__gravity_Composed_1 R_slices_ContainsFuncint_int__gravity_Composed_1 (p0, p1) K = w_slices_ContainsFuncint_int__gravity_Composed_1 p0 p1 K := by kernel_rfl
def s_slices_ContainsFuncint_int__gravity_Composed_1 (p0 : (List Int)) (p1 : PUnit) : Bool :=
  (decide ((v_idx_slices_IndexFuncint_int__gravity_Composed_1 p0) ≥ (0 : Int)))
abbrev pre_slices_ContainsFuncint_int__gravity_Composed_1 (p0 : (List Int)) (p1 : PUnit) : List Prop := [(lenOk p0)]
set_option maxHeartbeats 4000000 in
theorem d_slices_ContainsFuncint_int__gravity_Composed_1 (p0 : (List Int)) (p1 : PUnit) (K : Bool → Prop) (hp : ∀ p ∈ pre_slices_ContainsFuncint_int__gravity_Composed_1 p0 p1, p) (h : K (s_slices_ContainsFuncint_int__gravity_Composed_1 p0 p1)) : w_slices_ContainsFuncint_int__gravity_Composed_1 p0 p1 K := by
  unfold w_slices_ContainsFuncint_int__gravity_Composed_1
  unfold s_slices_ContainsFuncint_int__gravity_Composed_1 at h
  obtain ⟨hp0, _⟩ := conj_of hp
  exact ⟨(hp0), h⟩
def v_any_slices_ContainsFuncint_int__gravity_Composed_1 (p0 : List Int) : Bool := p0.any s_gravity_Composed_1
abbrev t_slices_ContainsFuncint_int__gravity_Composed_1 (p0 : List Int) (p1 : PUnit) : Bool := v_any_slices_ContainsFuncint_int__gravity_Composed_1 p0
abbrev qre_slices_ContainsFuncint_int__gravity_Composed_1 (p0 : List Int) (p1 : PUnit) : List Prop := [lenOk p0]
theorem pp_slices_ContainsFuncint_int__gravity_Composed_1 (p0 : List Int) (p1 : PUnit) (hq : ∀ p ∈ qre_slices_ContainsFuncint_int__gravity_Composed_1 p0 p1, p) : ∀ p ∈ pre_slices_ContainsFuncint_int__gravity_Composed_1 p0 p1, p := by
  simpa only [pre_slices_ContainsFuncint_int__gravity_Composed_1] using hq
theorem tt_slices_ContainsFuncint_int__gravity_Composed_1 (p0 : List Int) (p1 : PUnit) (hq : ∀ p ∈ qre_slices_ContainsFuncint_int__gravity_Composed_1 p0 p1, p) : s_slices_ContainsFuncint_int__gravity_Composed_1 p0 p1 = t_slices_ContainsFuncint_int__gravity_Composed_1 p0 p1 := by
  unfold s_slices_ContainsFuncint_int__gravity_Composed_1 t_slices_ContainsFuncint_int__gravity_Composed_1 v_any_slices_ContainsFuncint_int__gravity_Composed_1
  exact v_scan_idx p0 0 (Int.le_refl 0)

abbrev con_slices_ContainsFuncint_int__gravity_Composed_1 : Con := ⟨P_slices_ContainsFuncint_int__gravity_Composed_1, R_slices_ContainsFuncint_int__gravity_Composed_1, fun x => qre_slices_ContainsFuncint_int__gravity_Composed_1 x.1 x.2, fun x => t_slices_ContainsFuncint_int__gravity_Composed_1 x.1 x.2⟩
theorem ok_slices_ContainsFuncint_int__gravity_Composed_1 : ConOk Tryd.prog 91 con_slices_ContainsFuncint_int__gravity_Composed_1 := ⟨k_slices_ContainsFuncint_int__gravity_Composed_1, fun x hx => ret_tf (ps := P_slices_ContainsFuncint_int__gravity_Composed_1) (rs := R_slices_ContainsFuncint_int__gravity_Composed_1) (x := x) (y := t_slices_ContainsFuncint_int__gravity_Composed_1 x.1 x.2) e_slices_ContainsFuncint_int__gravity_Composed_1 hC_slices_ContainsFuncint_int__gravity_Composed_1 (tf_of (w_slices_ContainsFuncint_int__gravity_Composed_1_eq x.1 x.2 (fun z => z = t_slices_ContainsFuncint_int__gravity_Composed_1 x.1 x.2)) (d_slices_ContainsFuncint_int__gravity_Composed_1 x.1 x.2 (fun z => z = t_slices_ContainsFuncint_int__gravity_Composed_1 x.1 x.2) (pp_slices_ContainsFuncint_int__gravity_Composed_1 x.1 x.2 hx) (tt_slices_ContainsFuncint_int__gravity_Composed_1 x.1 x.2 hx)))⟩
/- gravity_Composed -/
def C_gravity_Composed : Cons := [(75, [], con_gravity_CheckFilter), (89, [], con_gravity_unless), (88, [], con_gravity_first), (90, ownMark, con_gravity_both), (91, [92], con_slices_ContainsFuncint_int__gravity_Composed_1)]
theorem hC_gravity_Composed : ConsOk Tryd.prog C_gravity_Composed := ConsOk.cons ok_gravity_CheckFilter <| ConsOk.cons ok_gravity_unless <| ConsOk.cons ok_gravity_first <| ConsOk.consO ok_gravity_both <| ConsOk.cons ok_slices_ContainsFuncint_int__gravity_Composed_1 <| ConsOk.nil
def w_gravity_Composed (p0 : (List Int)) (p1 : (List Int)) (K : ((List Int) × Int) → Prop) : Prop :=
  ((lenOk p0) ∧
  ((lenOk p1) ∧
  ((lenOk ((v_filerr p0) :: ((v_filerr p1) :: ((s_gravity_unless (decide ((Go.IntKind.wrap .i64 ((Go.IntKind.wrap .i64 ((((List.length p0) : Nat) : Int) + (((List.length p1) : Nat) : Int))) - (1 : Int))) ≤ (9 : Int))) (8 : Int)) :: ([] : List Int))))) ∧
  (((((v_first ((v_filerr p0) :: ((v_filerr p1) :: ((s_gravity_unless (decide ((Go.IntKind.wrap .i64 ((Go.IntKind.wrap .i64 ((((List.length p0) : Nat) : Int) + (((List.length p1) : Nat) : Int))) - (1 : Int))) ≤ (9 : Int))) (8 : Int)) :: ([] : List Int))))) != (0 : Int)) = true) →
  (K (([] : List Int), (v_first ((v_filerr p0) :: ((v_filerr p1) :: ((s_gravity_unless (decide ((Go.IntKind.wrap .i64 ((Go.IntKind.wrap .i64 ((((List.length p0) : Nat) : Int) + (((List.length p1) : Nat) : Int))) - (1 : Int))) ≤ (9 : Int))) (8 : Int)) :: ([] : List Int)))))))) ∧
  ((((v_first ((v_filerr p0) :: ((v_filerr p1) :: ((s_gravity_unless (decide ((Go.IntKind.wrap .i64 ((Go.IntKind.wrap .i64 ((((List.length p0) : Nat) : Int) + (((List.length p1) : Nat) : Int))) - (1 : Int))) ≤ (9 : Int))) (8 : Int)) :: ([] : List Int))))) != (0 : Int)) = false) →
  (((1 ≤ (List.length p0)) ∧
    ((List.length p0) ≤ 1000000)) ∧
    (((1 ≤ (List.length p1)) ∧
    ((List.length p1) ≤ 1000000)) ∧
    (((0 : Int) ≤ (Go.IntKind.wrap .i64 ((Go.IntKind.wrap .i64 ((((List.length (v_both p0)) : Nat) : Int) + (((List.length (v_both p1)) : Nat) : Int))) - (1 : Int)))) ∧
    ((((8 : Int) * (Go.IntKind.wrap .i64 ((Go.IntKind.wrap .i64 ((((List.length (v_both p0)) : Nat) : Int) + (((List.length (v_both p1)) : Nat) : Int))) - (1 : Int)))) ≤ (281474976710656 : Int)) ∧
    (((Go.IntKind.wrap .i64 ((Go.IntKind.wrap .i64 ((((List.length (v_both p0)) : Nat) : Int) + (((List.length (v_both p1)) : Nat) : Int))) - (1 : Int))) ≤ (9223372036854775807 : Int)) ∧
    (∃ n0, (loopP (fun (y1 : (Int × (List Int))) k2 =>
      ((((decide (y1.1 < (((List.length (v_both p0)) : Nat) : Int))) = true) →
      (((0 : Int) ≤ y1.1) ∧
        ((y1.1 < (((List.length (v_both p0)) : Nat) : Int)) ∧
        (∃ n3, (loopP (fun (y4 : (Int × (List Int))) k5 =>
          ((((decide (y4.1 < (((List.length (v_both p1)) : Nat) : Int))) = true) →
          (((0 : Int) ≤ y4.1) ∧
            ((y4.1 < (((List.length (v_both p1)) : Nat) : Int)) ∧
            (((0 : Int) ≤ (Go.IntKind.wrap .i64 (y1.1 + y4.1))) ∧
            (((Go.IntKind.wrap .i64 (y1.1 + y4.1)) < (((List.length y4.2) : Nat) : Int)) ∧
            (((0 : Int) ≤ (Go.IntKind.wrap .i64 (y1.1 + y4.1))) ∧
            (((Go.IntKind.wrap .i64 (y1.1 + y4.1)) < (((List.length y4.2) : Nat) : Int)) ∧
            (k5 ((Go.IntKind.wrap .i64 (y4.1 + (1 : Int))), (List.set y4.2 (Int.toNat (Go.IntKind.wrap .i64 (y1.1 + y4.1))) (Go.IntKind.wrap .i64 ((List.getD y4.2 (Int.toNat (Go.IntKind.wrap .i64 (y1.1 + y4.1))) (0 : Int)) + (Go.IntKind.wrap .i64 ((List.getD (v_both p0) (Int.toNat y1.1) (0 : Int)) * (List.getD (v_both p1) (Int.toNat y4.1) (0 : Int)))))))))))))))) ∧
          (((decide (y4.1 < (((List.length (v_both p1)) : Nat) : Int))) = false) →
          (k2 ((Go.IntKind.wrap .i64 (y1.1 + (1 : Int))), y4.2))))) n3 ((0 : Int), y1.2)))))) ∧
      (((decide (y1.1 < (((List.length (v_both p0)) : Nat) : Int))) = false) →
      (((0 : Int) ≤ (Go.IntKind.wrap .i64 (Int.tdiv (((List.length y1.2) : Nat) : Int) (2 : Int)))) ∧
        (((Go.IntKind.wrap .i64 (Int.tdiv (((List.length y1.2) : Nat) : Int) (2 : Int))) < (((List.length y1.2) : Nat) : Int)) ∧
        (((((List.length y1.2) : Nat) : Int) ≤ (((List.length y1.2) : Nat) : Int)) ∧
        ((lenOk (List.take (Int.toNat ((((List.length y1.2) : Nat) : Int) - (Go.IntKind.wrap .i64 (Int.tdiv (((List.length y1.2) : Nat) : Int) (2 : Int))))) (List.drop (Int.toNat (Go.IntKind.wrap .i64 (Int.tdiv (((List.length y1.2) : Nat) : Int) (2 : Int)))) y1.2))) ∧
        ((((v_any_slices_ContainsFuncint_int__gravity_Composed_1 (List.take (Int.toNat ((((List.length y1.2) : Nat) : Int) - (Go.IntKind.wrap .i64 (Int.tdiv (((List.length y1.2) : Nat) : Int) (2 : Int))))) (List.drop (Int.toNat (Go.IntKind.wrap .i64 (Int.tdiv (((List.length y1.2) : Nat) : Int) (2 : Int)))) y1.2))) = true) →
        (K (([] : List Int), (8 : Int)))) ∧
        (((v_any_slices_ContainsFuncint_int__gravity_Composed_1 (List.take (Int.toNat ((((List.length y1.2) : Nat) : Int) - (Go.IntKind.wrap .i64 (Int.tdiv (((List.length y1.2) : Nat) : Int) (2 : Int))))) (List.drop (Int.toNat (Go.IntKind.wrap .i64 (Int.tdiv (((List.length y1.2) : Nat) : Int) (2 : Int)))) y1.2))) = false) →
        (K ((List.take (Int.toNat ((((List.length y1.2) : Nat) : Int) - (Go.IntKind.wrap .i64 (Int.tdiv (((List.length y1.2) : Nat) : Int) (2 : Int))))) (List.drop (Int.toNat (Go.IntKind.wrap .i64 (Int.tdiv (((List.length y1.2) : Nat) : Int) (2 : Int)))) y1.2)), (0 : Int)))))))))))) n0 ((0 : Int), (List.replicate (Int.toNat (Go.IntKind.wrap .i64 ((Go.IntKind.wrap .i64 ((((List.length (v_both p0)) : Nat) : Int) + (((List.length (v_both p1)) : Nat) : Int))) - (1 : Int)))) (0 : Int)))))))))))))))
set_option maxHeartbeats 4000000 in
theorem w_gravity_Composed_eq (p0 : (List Int)) (p1 : (List Int)) (K : ((List Int) × Int) → Prop) : tfn F_gravity_Composed A_gravity_Composed C_gravity_Composed P_gravity_Composed R_gravity_Composed (p0, p1) K = w_gravity_Composed p0 p1 K := by kernel_rfl
def st_gravity_Composed_0 (p0 : (List Int)) (p1 : (List Int)) (y1 : (Int × (List Int))) (y3 : (Int × (List Int))) : (Int × (List Int)) ⊕ ((Int × (List Int)) ⊕ ((List Int) × Int)) :=
  (cond (decide (y3.1 < (((List.length (v_both p1)) : Nat) : Int))) (Sum.inl ((Go.IntKind.wrap .i64 (y3.1 + (1 : Int))), (List.set y3.2 (Int.toNat (Go.IntKind.wrap .i64 (y1.1 + y3.1))) (Go.IntKind.wrap .i64 ((List.getD y3.2 (Int.toNat (Go.IntKind.wrap .i64 (y1.1 + y3.1))) (0 : Int)) + (Go.IntKind.wrap .i64 ((List.getD (v_both p0) (Int.toNat y1.1) (0 : Int)) * (List.getD (v_both p1) (Int.toNat y3.1) (0 : Int)))))))))
    (Sum.inr (Sum.inl ((Go.IntKind.wrap .i64 (y1.1 + (1 : Int))), y3.2))))
abbrev sp_gravity_Composed_0 (p0 : (List Int)) (p1 : (List Int)) (y1 : (Int × (List Int))) (y3 : (Int × (List Int))) : List Prop := [(((decide (y3.1 < (((List.length (v_both p1)) : Nat) : Int))) = true) → ((0 : Int) ≤ y3.1)),
    (((decide (y3.1 < (((List.length (v_both p1)) : Nat) : Int))) = true) → (y3.1 < (((List.length (v_both p1)) : Nat) : Int))),
    (((decide (y3.1 < (((List.length (v_both p1)) : Nat) : Int))) = true) → ((0 : Int) ≤ (Go.IntKind.wrap .i64 (y1.1 + y3.1)))),
    (((decide (y3.1 < (((List.length (v_both p1)) : Nat) : Int))) = true) → ((Go.IntKind.wrap .i64 (y1.1 + y3.1)) < (((List.length y3.2) : Nat) : Int)))]
def st_gravity_Composed_1 (p0 : (List Int)) (p1 : (List Int)) (y1 : (Int × (List Int))) : (Int × (List Int)) ⊕ ((List Int) × Int) :=
  (cond (decide (y1.1 < (((List.length (v_both p0)) : Nat) : Int))) (lpv (Sum.inr ([], (0 : Int))) (st_gravity_Composed_0 p0 p1 y1) ((0 : Int), y1.2))
    (cond (v_any_slices_ContainsFuncint_int__gravity_Composed_1 (List.take (Int.toNat ((((List.length y1.2) : Nat) : Int) - (Go.IntKind.wrap .i64 (Int.tdiv (((List.length y1.2) : Nat) : Int) (2 : Int))))) (List.drop (Int.toNat (Go.IntKind.wrap .i64 (Int.tdiv (((List.length y1.2) : Nat) : Int) (2 : Int)))) y1.2))) (Sum.inr (([] : List Int), (8 : Int)))
    (Sum.inr ((List.take (Int.toNat ((((List.length y1.2) : Nat) : Int) - (Go.IntKind.wrap .i64 (Int.tdiv (((List.length y1.2) : Nat) : Int) (2 : Int))))) (List.drop (Int.toNat (Go.IntKind.wrap .i64 (Int.tdiv (((List.length y1.2) : Nat) : Int) (2 : Int)))) y1.2)), (0 : Int)))))
abbrev sp_gravity_Composed_1 (p0 : (List Int)) (p1 : (List Int)) (y1 : (Int × (List Int))) : List Prop := [(((decide (y1.1 < (((List.length (v_both p0)) : Nat) : Int))) = true) → ((0 : Int) ≤ y1.1)),
    (((decide (y1.1 < (((List.length (v_both p0)) : Nat) : Int))) = true) → (y1.1 < (((List.length (v_both p0)) : Nat) : Int))),
    (((decide (y1.1 < (((List.length (v_both p0)) : Nat) : Int))) = true) → (OkL (st_gravity_Composed_0 p0 p1 y1) (sp_gravity_Composed_0 p0 p1 y1) ((0 : Int), y1.2))),
    (((decide (y1.1 < (((List.length (v_both p0)) : Nat) : Int))) = false) → ((0 : Int) ≤ (Go.IntKind.wrap .i64 (Int.tdiv (((List.length y1.2) : Nat) : Int) (2 : Int))))),
    (((decide (y1.1 < (((List.length (v_both p0)) : Nat) : Int))) = false) → ((Go.IntKind.wrap .i64 (Int.tdiv (((List.length y1.2) : Nat) : Int) (2 : Int))) < (((List.length y1.2) : Nat) : Int))),
    (((decide (y1.1 < (((List.length (v_both p0)) : Nat) : Int))) = false) → ((((List.length y1.2) : Nat) : Int) ≤ (((List.length y1.2) : Nat) : Int))),
    (((decide (y1.1 < (((List.length (v_both p0)) : Nat) : Int))) = false) → (lenOk (List.take (Int.toNat ((((List.length y1.2) : Nat) : Int) - (Go.IntKind.wrap .i64 (Int.tdiv (((List.length y1.2) : Nat) : Int) (2 : Int))))) (List.drop (Int.toNat (Go.IntKind.wrap .i64 (Int.tdiv (((List.length y1.2) : Nat) : Int) (2 : Int)))) y1.2))))]
def s_gravity_Composed (p0 : (List Int)) (p1 : (List Int)) : ((List Int) × Int) :=
  (cond ((v_first ((v_filerr p0) :: ((v_filerr p1) :: ((s_gravity_unless (decide ((Go.IntKind.wrap .i64 ((Go.IntKind.wrap .i64 ((((List.length p0) : Nat) : Int) + (((List.length p1) : Nat) : Int))) - (1 : Int))) ≤ (9 : Int))) (8 : Int)) :: ([] : List Int))))) != (0 : Int)) (([] : List Int), (v_first ((v_filerr p0) :: ((v_filerr p1) :: ((s_gravity_unless (decide ((Go.IntKind.wrap .i64 ((Go.IntKind.wrap .i64 ((((List.length p0) : Nat) : Int) + (((List.length p1) : Nat) : Int))) - (1 : Int))) ≤ (9 : Int))) (8 : Int)) :: ([] : List Int))))))
    (lpv ([], (0 : Int)) (st_gravity_Composed_1 p0 p1) ((0 : Int), (List.replicate (Int.toNat (Go.IntKind.wrap .i64 ((Go.IntKind.wrap .i64 ((((List.length (v_both p0)) : Nat) : Int) + (((List.length (v_both p1)) : Nat) : Int))) - (1 : Int)))) (0 : Int)))))
abbrev pre_gravity_Composed (p0 : (List Int)) (p1 : (List Int)) : List Prop := [(lenOk p0),
    (lenOk p1),
    ((((v_first ((v_filerr p0) :: ((v_filerr p1) :: ((s_gravity_unless (decide ((Go.IntKind.wrap .i64 ((Go.IntKind.wrap .i64 ((((List.length p0) : Nat) : Int) + (((List.length p1) : Nat) : Int))) - (1 : Int))) ≤ (9 : Int))) (8 : Int)) :: ([] : List Int))))) != (0 : Int)) = false) → ((1 ≤ (List.length p0)) ∧ ((List.length p0) ≤ 1000000))),
    ((((v_first ((v_filerr p0) :: ((v_filerr p1) :: ((s_gravity_unless (decide ((Go.IntKind.wrap .i64 ((Go.IntKind.wrap .i64 ((((List.length p0) : Nat) : Int) + (((List.length p1) : Nat) : Int))) - (1 : Int))) ≤ (9 : Int))) (8 : Int)) :: ([] : List Int))))) != (0 : Int)) = false) → ((1 ≤ (List.length p1)) ∧ ((List.length p1) ≤ 1000000))),
    ((((v_first ((v_filerr p0) :: ((v_filerr p1) :: ((s_gravity_unless (decide ((Go.IntKind.wrap .i64 ((Go.IntKind.wrap .i64 ((((List.length p0) : Nat) : Int) + (((List.length p1) : Nat) : Int))) - (1 : Int))) ≤ (9 : Int))) (8 : Int)) :: ([] : List Int))))) != (0 : Int)) = false) → ((0 : Int) ≤ (Go.IntKind.wrap .i64 ((Go.IntKind.wrap .i64 ((((List.length (v_both p0)) : Nat) : Int) + (((List.length (v_both p1)) : Nat) : Int))) - (1 : Int))))),
    ((((v_first ((v_filerr p0) :: ((v_filerr p1) :: ((s_gravity_unless (decide ((Go.IntKind.wrap .i64 ((Go.IntKind.wrap .i64 ((((List.length p0) : Nat) : Int) + (((List.length p1) : Nat) : Int))) - (1 : Int))) ≤ (9 : Int))) (8 : Int)) :: ([] : List Int))))) != (0 : Int)) = false) → (((8 : Int) * (Go.IntKind.wrap .i64 ((Go.IntKind.wrap .i64 ((((List.length (v_both p0)) : Nat) : Int) + (((List.length (v_both p1)) : Nat) : Int))) - (1 : Int)))) ≤ (281474976710656 : Int))),
    ((((v_first ((v_filerr p0) :: ((v_filerr p1) :: ((s_gravity_unless (decide ((Go.IntKind.wrap .i64 ((Go.IntKind.wrap .i64 ((((List.length p0) : Nat) : Int) + (((List.length p1) : Nat) : Int))) - (1 : Int))) ≤ (9 : Int))) (8 : Int)) :: ([] : List Int))))) != (0 : Int)) = false) → ((Go.IntKind.wrap .i64 ((Go.IntKind.wrap .i64 ((((List.length (v_both p0)) : Nat) : Int) + (((List.length (v_both p1)) : Nat) : Int))) - (1 : Int))) ≤ (9223372036854775807 : Int))),
    ((((v_first ((v_filerr p0) :: ((v_filerr p1) :: ((s_gravity_unless (decide ((Go.IntKind.wrap .i64 ((Go.IntKind.wrap .i64 ((((List.length p0) : Nat) : Int) + (((List.length p1) : Nat) : Int))) - (1 : Int))) ≤ (9 : Int))) (8 : Int)) :: ([] : List Int))))) != (0 : Int)) = false) → (OkL (st_gravity_Composed_1 p0 p1) (sp_gravity_Composed_1 p0 p1) ((0 : Int), (List.replicate (Int.toNat (Go.IntKind.wrap .i64 ((Go.IntKind.wrap .i64 ((((List.length (v_both p0)) : Nat) : Int) + (((List.length (v_both p1)) : Nat) : Int))) - (1 : Int)))) (0 : Int)))))]
set_option maxHeartbeats 4000000 in
theorem d_gravity_Composed (p0 : (List Int)) (p1 : (List Int)) (K : ((List Int) × Int) → Prop) (hp : ∀ p ∈ pre_gravity_Composed p0 p1, p) (h : K (s_gravity_Composed p0 p1)) : w_gravity_Composed p0 p1 K := by
  unfold w_gravity_Composed
  unfold s_gravity_Composed at h
  obtain ⟨hp0, hp1, hp2, hp3, hp4, hp5, hp6, hp7, _⟩ := conj_of hp
  exact ⟨(hp0), ⟨(hp1), ⟨(lenOk_of 3 rfl (by decide)), (br' h (fun e0 h => h)
    (fun e0 h => ⟨(hp2 e0), ⟨(hp3 e0), ⟨(hp4 e0), ⟨(hp5 e0), ⟨(hp6 e0), (loop_gen (hp7 e0) h (fun y1 k1 hp h => by
  unfold st_gravity_Composed_1 at h; obtain ⟨hp0, hp1, hp2, hp3, hp4, hp5, hp6, _⟩ := conj_of hp
  exact (br' h (fun e2 h => ⟨(hp0 e2), ⟨(hp1 e2), (loop_gen (hp2 e2) h (fun y3 k3 hp h => by
  unfold st_gravity_Composed_0 at h; obtain ⟨hp0, hp1, hp2, hp3, _⟩ := conj_of hp
  exact (br' h (fun e4 h => ⟨(hp0 e4), ⟨(hp1 e4), ⟨(hp2 e4), ⟨(hp3 e4), ⟨(hp2 e4), ⟨(hp3 e4), h⟩⟩⟩⟩⟩⟩)
    (fun e4 h => h))))⟩⟩)
    (fun e2 h => ⟨(hp3 e2), ⟨(hp4 e2), ⟨(hp5 e2), ⟨(hp6 e2), (br' h (fun e5 h => h)
    (fun e5 h => h))⟩⟩⟩⟩))))⟩⟩⟩⟩⟩))⟩⟩⟩
/-- The numbers of two filters composed. -/
def v_conv (f g : List Int) : List Int := (List.range' 0 (f.length + g.length - 1)).map fun (k : Nat) => v_sums (fun i => v_at f ((i : Int) - ((f.length : Int) - 1)) * v_at g ((k : Int) - ((i : Int) - ((f.length : Int) - 1)))) 0 (2 * f.length - 1)
/-- The sums of products behind so many rounds. -/
def v_pr (f g : List Int) (i t : Nat) : Int := v_sums (fun i => v_at f ((i : Int) - ((f.length : Int) - 1)) * v_at g ((t : Int) - (i : Int) - ((g.length : Int) - 1))) 0 i
def v_prod2 (f g : List Int) (i : Nat) : List Int := (List.range' 0 (2 * (f.length + g.length - 1) - 1)).map fun t => v_pr f g i t
theorem v_prod2_len (f g : List Int) (i : Nat) : (v_prod2 f g i).length = 2 * (f.length + g.length - 1) - 1 := by simp [v_prod2]
theorem v_prod2_get {f g : List Int} {i t : Nat} (h : t < 2 * (f.length + g.length - 1) - 1) : (v_prod2 f g i).getD t 0 = v_pr f g i t := by
  unfold v_prod2; rw [gd_map_range h, Nat.zero_add]
theorem v_at_mul {f g : List Int} (h0 : v_fw f) (h1 : v_fw g) (a b : Int) : -10000000000 ≤ v_at f a * v_at g b ∧ v_at f a * v_at g b ≤ 10000000000 := by
  have := mul_abs (h0.at a).1 (h0.at a).2 (h1.at b).1 (h1.at b).2
  omega
theorem v_pr_in {f g : List Int} (h0 : v_fw f) (h1 : v_fw g) (i t : Nat) : -(i * 10000000000) ≤ v_pr f g i t ∧ v_pr f g i t ≤ i * 10000000000 := v_sums_in i 0 (fun _ _ _ => v_at_mul h0 h1 _ _)
theorem l_gravity_Composed_0 (p0 p1 : List Int) (h0 : v_fw p0) (h1 : v_fw p1) (i : Nat) (hi : i < 2 * p0.length - 1) : OkL (st_gravity_Composed_0 p0 p1 ((i : Int), v_prod2 p0 p1 i)) (sp_gravity_Composed_0 p0 p1 ((i : Int), v_prod2 p0 p1 i)) (0, v_prod2 p0 p1 i) ∧ lpv (Sum.inr ([], 0)) (st_gravity_Composed_0 p0 p1 ((i : Int), v_prod2 p0 p1 i)) (0, v_prod2 p0 p1 i) = Sum.inl (((i + 1 : Nat) : Int), v_prod2 p0 p1 (i + 1)) := by
  have a1 := h0.one
  have a9 := h0.nine
  have b1 := h1.one
  have b9 := h1.nine
  have hb := v_both_len b1
  have hL := v_prod2_len p0 p1 i
  refine for_is (fun i t => (i, t)) 0 (2 * p1.length - 1) (fun j l => l.length = 2 * (p0.length + p1.length - 1) - 1 ∧ ∀ t, t < 2 * (p0.length + p1.length - 1) - 1 → l.getD t 0 = v_pr p0 p1 i t + if i ≤ t ∧ t < i + j then v_at p0 ((i : Int) - ((p0.length : Int) - 1)) * v_at p1 ((t : Int) - (i : Int) - ((p1.length : Int) - 1)) else 0) (fun _ _ => Sum.inl (((i + 1 : Nat) : Int), v_prod2 p0 p1 (i + 1))) (by omega) (by omega) ?_ ?_ _ ⟨hL, fun t ht => by rw [v_prod2_get ht, if_neg (by omega)]; omega⟩
  · rintro l ⟨g1, g2⟩
    have hd : decide (((2 * p1.length - 1 : Nat) : Int) < ((v_both p1).length : Nat)) = false := decide_eq_false (by omega)
    refine ⟨by simp only [sp_gravity_Composed_0, List.forall_mem_cons, hd]; simp, ?_⟩
    simp only [st_gravity_Composed_0, hd, cond_false, wrap_nat (show (i : Int) ≤ 9223372036854775806 by omega)]
    congr 3
    refine gd_ext 0 (by rw [g1, v_prod2_len]) fun t ht => ?_
    rw [g1] at ht
    rw [g2 t ht, v_prod2_get ht]
    unfold v_pr
    rw [v_sums_last, Nat.zero_add]
    split
    · rfl
    · rw [v_at_out (f := p1) (by omega), Int.mul_zero]
  · rintro j l _ hj ⟨g1, g2⟩
    have hd : decide ((j : Int) < ((v_both p1).length : Nat)) = true := decide_eq_true (by omega)
    have hw : IntKind.i64.wrap ((i : Int) + (j : Int)) = ((i + j : Nat) : Int) := by rw [wrap_id (by omega) (by omega)]; omega
    refine ⟨?_, .inl ⟨_, by simp only [st_gravity_Composed_0, hd, cond_true, hw, Int.toNat_natCast, wrap_nat (show (j : Int) ≤ 9223372036854775806 by omega)]; rfl, ⟨by rw [List.length_set]; exact g1, fun t ht => ?_⟩, rfl⟩⟩
    · simp only [sp_gravity_Composed_0, List.forall_mem_cons, decide_eq_true_eq, hw]
      exact ⟨fun _ => by omega, fun _ => by omega, fun _ => by omega, fun _ => by omega, by simp⟩
    · have hm := v_at_mul h0 h1 ((i : Int) - ((p0.length : Int) - 1)) ((j : Int) - ((p1.length : Int) - 1))
      have hs := v_pr_in h0 h1 i (i + j)
      rw [gd_set (by omega)]
      by_cases e : t = i + j
      · subst e
        rw [if_pos rfl, v_both_at hi, v_both_at hj, g2 (i + j) (by omega), if_neg (by omega), wrap_id (n := v_at p0 ((i : Int) - ((p0.length : Int) - 1)) * v_at p1 ((j : Int) - ((p1.length : Int) - 1))) (by omega) (by omega), wrap_id (by omega) (by omega)]
        rw [if_pos (by omega), show ((i + j : Nat) : Int) - (i : Int) - ((p1.length : Int) - 1) = (j : Int) - ((p1.length : Int) - 1) by omega]; omega
      · rw [if_neg e, g2 t ht]
        congr 1
        by_cases c : i ≤ t ∧ t < i + j
        · rw [if_pos c, if_pos (by omega)]
        · rw [if_neg c, if_neg (by omega)]
theorem v_conv_len (f g : List Int) : (v_conv f g).length = f.length + g.length - 1 := by simp [v_conv]
theorem v_conv_get {f g : List Int} {k : Nat} (h : k < f.length + g.length - 1) : (v_conv f g).getD k 0 = v_sums (fun i => v_at f ((i : Int) - ((f.length : Int) - 1)) * v_at g ((k : Int) - ((i : Int) - ((f.length : Int) - 1)))) 0 (2 * f.length - 1) := by
  unfold v_conv; rw [gd_map_range h, Nat.zero_add]
theorem v_prod2_conv {f g : List Int} (h0 : 1 ≤ f.length) (h1 : 1 ≤ g.length) : List.take (f.length + g.length - 1) (List.drop (f.length + g.length - 2) (v_prod2 f g (2 * f.length - 1))) = v_conv f g := by
  refine gd_ext 0 (by rw [v_conv_len, List.length_take, List.length_drop, v_prod2_len]; omega) fun k hk => ?_
  rw [List.length_take, List.length_drop, v_prod2_len] at hk
  rw [gd_take (by omega), gd_drop, v_prod2_get (by omega), v_conv_get (by omega)]
  refine v_sums_congr _ _ fun i _ _ => ?_
  congr 2; omega
theorem l_gravity_Composed (p0 p1 : List Int) (h0 : v_fw p0) (h1 : v_fw p1) : OkL (st_gravity_Composed_1 p0 p1) (sp_gravity_Composed_1 p0 p1) (0, v_prod2 p0 p1 0) ∧ lpv ([], 0) (st_gravity_Composed_1 p0 p1) (0, v_prod2 p0 p1 0) = cond (v_any_slices_ContainsFuncint_int__gravity_Composed_1 (v_conv p0 p1)) ([], 8) (v_conv p0 p1, 0) := by
  have a1 := h0.one
  have a9 := h0.nine
  have b1 := h1.one
  have b9 := h1.nine
  have hb := v_both_len a1
  refine for_is (fun i t => (i, t)) 0 (2 * p0.length - 1) (fun j l => l = v_prod2 p0 p1 j) (fun _ _ => cond (v_any_slices_ContainsFuncint_int__gravity_Composed_1 (v_conv p0 p1)) ([], 8) (v_conv p0 p1, 0)) (by omega) (by omega) ?_ ?_ _ rfl
  · rintro l rfl
    have hd : decide (((2 * p0.length - 1 : Nat) : Int) < ((v_both p0).length : Nat)) = false := decide_eq_false (by omega)
    have hq : IntKind.i64.wrap (Int.tdiv (((v_prod2 p0 p1 (2 * p0.length - 1)).length : Nat) : Int) 2) = ((p0.length + p1.length - 2 : Nat) : Int) := by
      rw [v_prod2_len, Int.tdiv_eq_ediv_of_nonneg (by omega), wrap_id (by omega) (by omega)]; omega
    have hc : List.take (Int.toNat ((((v_prod2 p0 p1 (2 * p0.length - 1)).length : Nat) : Int) - ((p0.length + p1.length - 2 : Nat) : Int))) (List.drop (Int.toNat ((p0.length + p1.length - 2 : Nat) : Int)) (v_prod2 p0 p1 (2 * p0.length - 1))) = v_conv p0 p1 := by
      rw [← v_prod2_conv a1 b1, v_prod2_len, Int.toNat_natCast]
      congr 1; omega
    have hl := v_conv_len p0 p1
    refine ⟨?_, ?_⟩
    · simp only [sp_gravity_Composed_1, List.forall_mem_cons, decide_eq_true_eq, hq, hc]
      refine ⟨fun h => by omega, fun h => by omega, fun h => absurd h (by omega), fun _ => by omega, fun _ => by rw [v_prod2_len]; omega, fun _ => by omega, fun _ => lenOk_m (by omega), by simp⟩
    · simp only [st_gravity_Composed_1, hd, cond_false, hq, hc]
      cases v_any_slices_ContainsFuncint_int__gravity_Composed_1 (v_conv p0 p1) <;> rfl
  · rintro j l _ hj rfl
    have hd : decide ((j : Int) < ((v_both p0).length : Nat)) = true := decide_eq_true (by omega)
    obtain ⟨l1, l2⟩ := l_gravity_Composed_0 p0 p1 h0 h1 j hj
    refine ⟨?_, .inl ⟨_, by simp only [st_gravity_Composed_1, hd, cond_true]; exact l2, rfl, rfl⟩⟩
    simp only [sp_gravity_Composed_1, List.forall_mem_cons]
    have no : ∀ {p : Prop}, decide ((j : Int) < ((v_both p0).length : Nat)) = false → p := fun h => by rw [hd] at h; cases h
    exact ⟨fun _ => by omega, fun _ => by omega, fun _ => l1, no, no, no, no, by simp⟩
/-- The error of two filters that are composed. -/
def v_cerr (p0 p1 : List Int) : Int := v_first [v_filerr p0, v_filerr p1, s_gravity_unless (decide ((p0.length : Int) + p1.length - 1 ≤ 9)) 8]
theorem tx_cerr {p0 p1 : List Int} (h : v_cerr p0 p1 = 0) : v_fok p0 ∧ v_fok p1 ∧ p0.length + p1.length - 1 ≤ 9 := by
  obtain ⟨h1, h⟩ := v_first0 h
  obtain ⟨h2, h⟩ := v_first0 h
  obtain ⟨h3, _⟩ := v_first0 h
  have := of_decide_eq_true (tx_unless0' (by decide) h3)
  exact ⟨tx_fok h1, tx_fok h2, by omega⟩
abbrev t_gravity_Composed (p0 p1 : List Int) : List Int × Int := cond (v_cerr p0 p1 != 0) ([], v_cerr p0 p1) (cond (v_any_slices_ContainsFuncint_int__gravity_Composed_1 (v_conv p0 p1)) ([], 8) (v_conv p0 p1, 0))
abbrev qre_gravity_Composed (p0 p1 : List Int) : List Prop := [p0.length ≤ 1000000, p1.length ≤ 1000000]
theorem l_gravity_Composed1 {p0 p1 : List Int} (h0 : p0.length ≤ 1000000) (h1 : p1.length ≤ 1000000) : v_first (v_filerr p0 :: v_filerr p1 :: s_gravity_unless (decide (IntKind.i64.wrap (IntKind.i64.wrap (((p0.length : Nat) : Int) + ((p1.length : Nat) : Int)) - 1) ≤ 9)) 8 :: []) = v_cerr p0 p1 := by
  rw [wrap_id (n := ((p0.length : Nat) : Int) + ((p1.length : Nat) : Int)) (by omega) (by omega), wrap_id (by omega) (by omega)]; rfl
theorem l_gravity_Composed2 {p0 p1 : List Int} (h0 : v_fw p0) (h1 : v_fw p1) : IntKind.i64.wrap (IntKind.i64.wrap ((((v_both p0).length : Nat) : Int) + (((v_both p1).length : Nat) : Int)) - 1) = ((2 * (p0.length + p1.length - 1) - 1 : Nat) : Int) := by
  have a1 := h0.one
  have a9 := h0.nine
  have b1 := h1.one
  have b9 := h1.nine
  rw [v_both_len a1, v_both_len b1, wrap_id (n := ((2 * p0.length - 1 : Nat) : Int) + ((2 * p1.length - 1 : Nat) : Int)) (by omega) (by omega), wrap_id (by omega) (by omega)]; omega
theorem l_gravity_Composed3 {p0 p1 : List Int} : List.replicate (2 * (p0.length + p1.length - 1) - 1) (0 : Int) = v_prod2 p0 p1 0 := by
  refine gd_ext 0 (by rw [v_prod2_len, List.length_replicate]) fun t ht => ?_
  rw [List.length_replicate] at ht
  rw [gd_rep ht, v_prod2_get ht]; rfl
theorem pp_gravity_Composed (p0 p1 : List Int) (hq : ∀ p ∈ qre_gravity_Composed p0 p1, p) : ∀ p ∈ pre_gravity_Composed p0 p1, p := by
  obtain ⟨q0, q1, _⟩ := conj_of hq
  simp only [pre_gravity_Composed, List.forall_mem_cons, l_gravity_Composed1 q0 q1]
  have key : (v_cerr p0 p1 != 0) = false → v_fok p0 ∧ v_fok p1 ∧ p0.length + p1.length - 1 ≤ 9 := fun h => tx_cerr (bne0' h)
  refine ⟨lenOk_m (by omega), lenOk_m (by omega), fun h => ⟨(key h).1.one, q0⟩, fun h => ⟨(key h).2.1.one, q1⟩, fun h => ?_, fun h => ?_, fun h => ?_, fun h => ?_, by simp⟩
  all_goals
    obtain ⟨k1, k2, k3⟩ := key h
    rw [l_gravity_Composed2 k1.tov_fw k2.tov_fw]
  · omega
  · omega
  · omega
  · rw [Int.toNat_natCast, l_gravity_Composed3]
    exact (l_gravity_Composed p0 p1 k1.tov_fw k2.tov_fw).1
theorem tt_gravity_Composed (p0 p1 : List Int) (hq : ∀ p ∈ qre_gravity_Composed p0 p1, p) : s_gravity_Composed p0 p1 = t_gravity_Composed p0 p1 := by
  obtain ⟨q0, q1, _⟩ := conj_of hq
  unfold s_gravity_Composed t_gravity_Composed
  rw [l_gravity_Composed1 q0 q1]
  cases h : (v_cerr p0 p1 != 0)
  · obtain ⟨k1, k2, k3⟩ := tx_cerr (bne0' h)
    rw [l_gravity_Composed2 k1.tov_fw k2.tov_fw, Int.toNat_natCast, l_gravity_Composed3]
    exact (l_gravity_Composed p0 p1 k1.tov_fw k2.tov_fw).2
  · rfl

abbrev con_gravity_Composed : Con := ⟨P_gravity_Composed, R_gravity_Composed, fun x => qre_gravity_Composed x.1 x.2, fun x => t_gravity_Composed x.1 x.2⟩
theorem ok_gravity_Composed : ConOk Tryd.prog 17 con_gravity_Composed := ⟨k_gravity_Composed, fun x hx => ret_tf (ps := P_gravity_Composed) (rs := R_gravity_Composed) (x := x) (y := t_gravity_Composed x.1 x.2) e_gravity_Composed hC_gravity_Composed (tf_of (w_gravity_Composed_eq x.1 x.2 (fun z => z = t_gravity_Composed x.1 x.2)) (d_gravity_Composed x.1 x.2 (fun z => z = t_gravity_Composed x.1 x.2) (pp_gravity_Composed x.1 x.2 hx) (tt_gravity_Composed x.1 x.2 hx)))⟩
/- base_Within -/
def C_base_Within : Cons := []
theorem hC_base_Within : ConsOk Tryd.prog C_base_Within := ConsOk.nil
def w_base_Within (p0 : Int) (p1 : Int) (p2 : Int) (K : Bool → Prop) : Prop :=
  ((((decide (p1 ≤ p0)) = true) →
  ((decide (p1 ≤ p0)) = (decide (p1 ≤ p0)))) ∧
  ((((decide (p1 ≤ p0)) = true) →
  ((decide (p1 ≤ p0)) = (decide (p1 ≤ p0)))) ∧
  (((decide (p1 ≤ p0)) = (decide (p1 ≤ p0))) ∧
  (K (cond (decide (p1 ≤ p0)) (decide (p0 ≤ p2)) false)))))
set_option maxHeartbeats 4000000 in
theorem w_base_Within_eq (p0 : Int) (p1 : Int) (p2 : Int) (K : Bool → Prop) : tfn F_base_Within A_base_Within C_base_Within P_base_Within R_base_Within (p0, p1, p2) K = w_base_Within p0 p1 p2 K := by kernel_rfl
def s_base_Within (p0 : Int) (p1 : Int) (p2 : Int) : Bool :=
  (cond (decide (p1 ≤ p0)) (decide (p0 ≤ p2)) false)
abbrev pre_base_Within (p0 : Int) (p1 : Int) (p2 : Int) : List Prop := []
set_option maxHeartbeats 4000000 in
theorem d_base_Within (p0 : Int) (p1 : Int) (p2 : Int) (K : Bool → Prop) (hp : ∀ p ∈ pre_base_Within p0 p1 p2, p) (h : K (s_base_Within p0 p1 p2)) : w_base_Within p0 p1 p2 K := by
  unfold w_base_Within
  unfold s_base_Within at h
  exact ⟨(fun _ => rfl), ⟨(fun _ => rfl), ⟨rfl, h⟩⟩⟩
abbrev con_base_Within : Con := ⟨P_base_Within, R_base_Within, fun x => pre_base_Within x.1 x.2.1 x.2.2, fun x => s_base_Within x.1 x.2.1 x.2.2⟩
theorem ok_base_Within : ConOk Tryd.prog 60 con_base_Within := ⟨k_base_Within, fun x hx => ret_tf (ps := P_base_Within) (rs := R_base_Within) (x := x) (y := s_base_Within x.1 x.2.1 x.2.2) e_base_Within hC_base_Within (tf_of (w_base_Within_eq x.1 x.2.1 x.2.2 (fun z => z = s_base_Within x.1 x.2.1 x.2.2)) (d_base_Within x.1 x.2.1 x.2.2 (fun z => z = s_base_Within x.1 x.2.1 x.2.2) hx rfl))⟩
/- gravity_divisor -/
def C_gravity_divisor : Cons := []
theorem hC_gravity_divisor : ConsOk Tryd.prog C_gravity_divisor := ConsOk.nil
def w_gravity_divisor (p0 : Int) (p1 : Int) (K : Int → Prop) : Prop :=
  (∃ n0, (loopP (fun (y1 : (Int × Int)) k2 =>
    ((((y1.1 != (0 : Int)) = true) →
    ((y1.1 ≠ (0 : Int)) ∧
      (k2 ((Int.tmod y1.2 y1.1), y1.1)))) ∧
    (((y1.1 != (0 : Int)) = false) →
    (K (max y1.2 (Go.IntKind.wrap .i64 ((0 : Int) - y1.2))))))) n0 (p1, p0)))
set_option maxHeartbeats 4000000 in
theorem w_gravity_divisor_eq (p0 : Int) (p1 : Int) (K : Int → Prop) : tfn F_gravity_divisor A_gravity_divisor C_gravity_divisor P_gravity_divisor R_gravity_divisor (p0, p1) K = w_gravity_divisor p0 p1 K := by kernel_rfl
def st_gravity_divisor_0 (p0 : Int) (p1 : Int) (y0 : (Int × Int)) : (Int × Int) ⊕ Int :=
  (cond (y0.1 != (0 : Int)) (Sum.inl ((Int.tmod y0.2 y0.1), y0.1))
    (Sum.inr (max y0.2 (Go.IntKind.wrap .i64 ((0 : Int) - y0.2)))))
abbrev sp_gravity_divisor_0 (p0 : Int) (p1 : Int) (y0 : (Int × Int)) : List Prop := [(((y0.1 != (0 : Int)) = true) → (y0.1 ≠ (0 : Int)))]
def s_gravity_divisor (p0 : Int) (p1 : Int) : Int :=
  (lpv (0 : Int) (st_gravity_divisor_0 p0 p1) (p1, p0))
abbrev pre_gravity_divisor (p0 : Int) (p1 : Int) : List Prop := [(OkL (st_gravity_divisor_0 p0 p1) (sp_gravity_divisor_0 p0 p1) (p1, p0))]
set_option maxHeartbeats 4000000 in
theorem d_gravity_divisor (p0 : Int) (p1 : Int) (K : Int → Prop) (hp : ∀ p ∈ pre_gravity_divisor p0 p1, p) (h : K (s_gravity_divisor p0 p1)) : w_gravity_divisor p0 p1 K := by
  unfold w_gravity_divisor
  unfold s_gravity_divisor at h
  obtain ⟨hp0, _⟩ := conj_of hp
  exact (loop_gen (hp0) h (fun y0 k0 hp h => by
  unfold st_gravity_divisor_0 at h; obtain ⟨hp0, _⟩ := conj_of hp
  exact (br' h (fun e1 h => ⟨(hp0 e1), h⟩)
    (fun e1 h => h))))
theorem l_gravity_divisor_0 (p0 p1 : Int) (h0 : v_fit p0) (h1 : v_fit p1) : OkL (st_gravity_divisor_0 p0 p1) (sp_gravity_divisor_0 p0 p1) (p1, p0) ∧ lpv 0 (st_gravity_divisor_0 p0 p1) (p1, p0) = v_gcd p0 p1 := by
  refine gcd_is (fun y => rfl) (fun y => ?_) h0 h1
  simp only [sp_gravity_divisor_0, List.forall_mem_cons]
  simp
abbrev t_gravity_divisor (p0 p1 : Int) : Int := v_gcd p0 p1
abbrev qre_gravity_divisor (p0 p1 : Int) : List Prop := [v_fit p0 ∧ v_fit p1]
theorem pp_gravity_divisor (p0 p1 : Int) (hq : ∀ p ∈ qre_gravity_divisor p0 p1, p) : ∀ p ∈ pre_gravity_divisor p0 p1, p := by
  simp only [pre_gravity_divisor, List.forall_mem_cons]
  have h := (conj_of hq).1
  exact ⟨(l_gravity_divisor_0 p0 p1 h.1 h.2).1, by simp⟩
theorem tt_gravity_divisor (p0 p1 : Int) (hq : ∀ p ∈ qre_gravity_divisor p0 p1, p) : s_gravity_divisor p0 p1 = t_gravity_divisor p0 p1 := by
  have h := (conj_of hq).1
  exact (l_gravity_divisor_0 p0 p1 h.1 h.2).2

abbrev con_gravity_divisor : Con := ⟨P_gravity_divisor, R_gravity_divisor, fun x => qre_gravity_divisor x.1 x.2, fun x => t_gravity_divisor x.1 x.2⟩
theorem ok_gravity_divisor : ConOk Tryd.prog 114 con_gravity_divisor := ⟨k_gravity_divisor, fun x hx => ret_tf (ps := P_gravity_divisor) (rs := R_gravity_divisor) (x := x) (y := t_gravity_divisor x.1 x.2) e_gravity_divisor hC_gravity_divisor (tf_of (w_gravity_divisor_eq x.1 x.2 (fun z => z = t_gravity_divisor x.1 x.2)) (d_gravity_divisor x.1 x.2 (fun z => z = t_gravity_divisor x.1 x.2) (pp_gravity_divisor x.1 x.2 hx) (tt_gravity_divisor x.1 x.2 hx)))⟩
/- gravity_fraction -/
def C_gravity_fraction : Cons := [(114, [], con_gravity_divisor), (93, [], con_gravity_isSized)]
theorem hC_gravity_fraction : ConsOk Tryd.prog C_gravity_fraction := ConsOk.cons ok_gravity_divisor <| ConsOk.cons ok_gravity_isSized <| ConsOk.nil
def w_gravity_fraction (p0 : Int) (p1 : Int) (K : ((Int × Int) × Int) → Prop) : Prop :=
  (((v_fit p0) ∧
  (v_fit p1)) ∧
  (((v_gcd p0 p1) ≠ (0 : Int)) ∧
  (((v_gcd p0 p1) ≠ (0 : Int)) ∧
  ((((!(s_gravity_isSized (Go.IntKind.wrap .i64 (Int.tdiv p0 (v_gcd p0 p1))) (1000000000 : Int))) = false) →
  ((!(s_gravity_isSized (Go.IntKind.wrap .i64 (Int.tdiv p0 (v_gcd p0 p1))) (1000000000 : Int))) = (!(s_gravity_isSized (Go.IntKind.wrap .i64 (Int.tdiv p0 (v_gcd p0 p1))) (1000000000 : Int))))) ∧
  ((((!(s_gravity_isSized (Go.IntKind.wrap .i64 (Int.tdiv p0 (v_gcd p0 p1))) (1000000000 : Int))) = false) →
  ((!(s_gravity_isSized (Go.IntKind.wrap .i64 (Int.tdiv p0 (v_gcd p0 p1))) (1000000000 : Int))) = (!(s_gravity_isSized (Go.IntKind.wrap .i64 (Int.tdiv p0 (v_gcd p0 p1))) (1000000000 : Int))))) ∧
  (((!(s_gravity_isSized (Go.IntKind.wrap .i64 (Int.tdiv p0 (v_gcd p0 p1))) (1000000000 : Int))) = (!(s_gravity_isSized (Go.IntKind.wrap .i64 (Int.tdiv p0 (v_gcd p0 p1))) (1000000000 : Int)))) ∧
  ((((cond (!(s_gravity_isSized (Go.IntKind.wrap .i64 (Int.tdiv p0 (v_gcd p0 p1))) (1000000000 : Int))) true (decide ((Go.IntKind.wrap .i64 (Int.tdiv p1 (v_gcd p0 p1))) > (1000000000 : Int)))) = true) →
  (K (((0 : Int), (0 : Int)), (8 : Int)))) ∧
  (((cond (!(s_gravity_isSized (Go.IntKind.wrap .i64 (Int.tdiv p0 (v_gcd p0 p1))) (1000000000 : Int))) true (decide ((Go.IntKind.wrap .i64 (Int.tdiv p1 (v_gcd p0 p1))) > (1000000000 : Int)))) = false) →
  (K (((Go.IntKind.wrap .i64 (Int.tdiv p0 (v_gcd p0 p1))), (Go.IntKind.wrap .i64 (Int.tdiv p1 (v_gcd p0 p1)))), (0 : Int)))))))))))
set_option maxHeartbeats 4000000 in
theorem w_gravity_fraction_eq (p0 : Int) (p1 : Int) (K : ((Int × Int) × Int) → Prop) : tfn F_gravity_fraction A_gravity_fraction C_gravity_fraction P_gravity_fraction R_gravity_fraction (p0, p1) K = w_gravity_fraction p0 p1 K := by kernel_rfl
def s_gravity_fraction (p0 : Int) (p1 : Int) : ((Int × Int) × Int) :=
  (cond (cond (!(s_gravity_isSized (Go.IntKind.wrap .i64 (Int.tdiv p0 (v_gcd p0 p1))) (1000000000 : Int))) true (decide ((Go.IntKind.wrap .i64 (Int.tdiv p1 (v_gcd p0 p1))) > (1000000000 : Int)))) (((0 : Int), (0 : Int)), (8 : Int))
    (((Go.IntKind.wrap .i64 (Int.tdiv p0 (v_gcd p0 p1))), (Go.IntKind.wrap .i64 (Int.tdiv p1 (v_gcd p0 p1)))), (0 : Int)))
abbrev pre_gravity_fraction (p0 : Int) (p1 : Int) : List Prop := [((v_fit p0) ∧ (v_fit p1)),
    ((v_gcd p0 p1) ≠ (0 : Int))]
set_option maxHeartbeats 4000000 in
theorem d_gravity_fraction (p0 : Int) (p1 : Int) (K : ((Int × Int) × Int) → Prop) (hp : ∀ p ∈ pre_gravity_fraction p0 p1, p) (h : K (s_gravity_fraction p0 p1)) : w_gravity_fraction p0 p1 K := by
  unfold w_gravity_fraction
  unfold s_gravity_fraction at h
  obtain ⟨hp0, hp1, _⟩ := conj_of hp
  exact ⟨(hp0), ⟨(hp1), ⟨(hp1), ⟨(fun _ => rfl), ⟨(fun _ => rfl), ⟨rfl, (br' h (fun e0 h => h)
    (fun e0 h => h))⟩⟩⟩⟩⟩⟩
theorem tx_low {a b : Int} (ha : v_fit a) (hb : 0 < b) (hb2 : v_fit b) : IntKind.i64.wrap (a.tdiv (v_gcd a b)) = (v_low (a, b)).1 ∧ IntKind.i64.wrap (b.tdiv (v_gcd a b)) = (v_low (a, b)).2 ∧ (v_low (a, b)).1.natAbs ≤ a.natAbs ∧ 0 < (v_low (a, b)).2 ∧ (v_low (a, b)).2 ≤ b := by
  have hg := v_gcd_pos (a := a) (b := b) (by omega)
  have e1 := Int.tdiv_eq_ediv_of_dvd (v_gcd_dvd_left a b)
  have e2 := Int.tdiv_eq_ediv_of_dvd (v_gcd_dvd_right a b)
  have n1 : (a.tdiv (v_gcd a b)).natAbs ≤ a.natAbs := by rw [Int.natAbs_tdiv]; exact Nat.div_le_self _ _
  have n2 : (b.tdiv (v_gcd a b)).natAbs ≤ b.natAbs := by rw [Int.natAbs_tdiv]; exact Nat.div_le_self _ _
  have p2 : 0 < b / v_gcd a b := Int.ediv_pos_of_pos_of_dvd hb (by omega) (v_gcd_dvd_right a b)
  unfold v_fit at *
  unfold v_low
  simp only
  rw [← e1, ← e2]
  rw [← e2] at p2
  exact ⟨wrap_id (by omega) (by omega), wrap_id (by omega) (by omega), n1, p2, by omega⟩
/-- Both parts are small. -/
def v_small (f : Int × Int) : Bool := cond (s_gravity_isSized f.1 1000000000) (decide (f.2 ≤ 1000000000)) false
theorem tx_small {f : Int × Int} (h : 0 < f.2) : s_base_Within f.1 (-1000000000) 1000000000 = s_gravity_isSized f.1 1000000000 ∧ s_base_Within f.2 1 1000000000 = decide (f.2 ≤ 1000000000) := by
  refine ⟨rfl, ?_⟩
  show s_gravity_within f.2 1 1000000000 = _
  unfold s_gravity_within
  rw [decide_eq_true (show (1 : Int) ≤ f.2 by omega)]; rfl
abbrev t_gravity_fraction (p0 p1 : Int) : (Int × Int) × Int := cond (v_small (v_low (p0, p1))) (v_low (p0, p1), 0) ((0, 0), 8)
abbrev qre_gravity_fraction (p0 p1 : Int) : List Prop := [v_fit p0, 0 < p1, v_fit p1]
theorem pp_gravity_fraction (p0 p1 : Int) (hq : ∀ p ∈ qre_gravity_fraction p0 p1, p) : ∀ p ∈ pre_gravity_fraction p0 p1, p := by
  obtain ⟨h0, h1, h2, _⟩ := conj_of hq
  simp only [pre_gravity_fraction, List.forall_mem_cons]
  have := v_gcd_pos (a := p0) (b := p1) (by omega)
  exact ⟨⟨h0, h2⟩, by omega, by simp⟩
theorem tt_gravity_fraction (p0 p1 : Int) (hq : ∀ p ∈ qre_gravity_fraction p0 p1, p) : s_gravity_fraction p0 p1 = t_gravity_fraction p0 p1 := by
  obtain ⟨h0, h1, h2, _⟩ := conj_of hq
  obtain ⟨e1, e2, _⟩ := tx_low h0 h1 h2
  unfold s_gravity_fraction t_gravity_fraction v_small
  rw [e1, e2]
  cases s_gravity_isSized (v_low (p0, p1)).1 1000000000
  · rfl
  · rcases Int.lt_or_le 1000000000 (v_low (p0, p1)).2 with c | c
    · rw [decide_eq_true (show (v_low (p0, p1)).2 > 1000000000 from c), decide_eq_false (show ¬ (v_low (p0, p1)).2 ≤ 1000000000 by omega)]; rfl
    · rw [decide_eq_false (show ¬ (v_low (p0, p1)).2 > 1000000000 by omega), decide_eq_true c]; rfl

abbrev con_gravity_fraction : Con := ⟨P_gravity_fraction, R_gravity_fraction, fun x => qre_gravity_fraction x.1 x.2, fun x => t_gravity_fraction x.1 x.2⟩
theorem ok_gravity_fraction : ConOk Tryd.prog 95 con_gravity_fraction := ⟨k_gravity_fraction, fun x hx => ret_tf (ps := P_gravity_fraction) (rs := R_gravity_fraction) (x := x) (y := t_gravity_fraction x.1 x.2) e_gravity_fraction hC_gravity_fraction (tf_of (w_gravity_fraction_eq x.1 x.2 (fun z => z = t_gravity_fraction x.1 x.2)) (d_gravity_fraction x.1 x.2 (fun z => z = t_gravity_fraction x.1 x.2) (pp_gravity_fraction x.1 x.2 hx) (tt_gravity_fraction x.1 x.2 hx)))⟩
/- gravity_ReducedOf -/
def C_gravity_ReducedOf : Cons := [(93, [], con_gravity_isSized), (94, [], con_gravity_within), (95, [], con_gravity_fraction)]
theorem hC_gravity_ReducedOf : ConsOk Tryd.prog C_gravity_ReducedOf := ConsOk.cons ok_gravity_isSized <| ConsOk.cons ok_gravity_within <| ConsOk.cons ok_gravity_fraction <| ConsOk.nil
def w_gravity_ReducedOf (p0 : Int) (p1 : Int) (p2 : Int) (K : ((Int × Int) × Int) → Prop) : Prop :=
  ((((s_gravity_isSized p0 (1000000 : Int)) = true) →
  ((s_gravity_isSized p0 (1000000 : Int)) = (s_gravity_isSized p0 (1000000 : Int)))) ∧
  (((s_gravity_isSized p0 (1000000 : Int)) = (s_gravity_isSized p0 (1000000 : Int))) ∧
  ((((cond (s_gravity_isSized p0 (1000000 : Int)) (s_gravity_isSized p1 (10000 : Int)) false) = true) →
  ((cond (s_gravity_isSized p0 (1000000 : Int)) (s_gravity_isSized p1 (10000 : Int)) false) = (cond (s_gravity_isSized p0 (1000000 : Int)) (s_gravity_isSized p1 (10000 : Int)) false))) ∧
  (((cond (s_gravity_isSized p0 (1000000 : Int)) (s_gravity_isSized p1 (10000 : Int)) false) = (cond (s_gravity_isSized p0 (1000000 : Int)) (s_gravity_isSized p1 (10000 : Int)) false)) ∧
  ((((!(cond (cond (s_gravity_isSized p0 (1000000 : Int)) (s_gravity_isSized p1 (10000 : Int)) false) (s_gravity_within p2 (0 : Int) (1000 : Int)) false)) = true) →
  (K (((0 : Int), (0 : Int)), (2 : Int)))) ∧
  (((!(cond (cond (s_gravity_isSized p0 (1000000 : Int)) (s_gravity_isSized p1 (10000 : Int)) false) (s_gravity_within p2 (0 : Int) (1000 : Int)) false)) = false) →
  ((v_fit (Go.IntKind.wrap .i64 ((Go.IntKind.wrap .i64 ((Go.IntKind.wrap .i64 ((100000 : Int) * p0)) + (Go.IntKind.wrap .i64 ((3086000 : Int) * p1)))) - (Go.IntKind.wrap .i64 ((Go.IntKind.wrap .i64 ((4193 : Int) * p2)) * p1))))) ∧
    (((0 : Int) < (100000 : Int)) ∧
    ((v_fit (100000 : Int)) ∧
    (K (cond (v_small (v_low ((Go.IntKind.wrap .i64 ((Go.IntKind.wrap .i64 ((Go.IntKind.wrap .i64 ((100000 : Int) * p0)) + (Go.IntKind.wrap .i64 ((3086000 : Int) * p1)))) - (Go.IntKind.wrap .i64 ((Go.IntKind.wrap .i64 ((4193 : Int) * p2)) * p1)))), (100000 : Int)))) ((v_low ((Go.IntKind.wrap .i64 ((Go.IntKind.wrap .i64 ((Go.IntKind.wrap .i64 ((100000 : Int) * p0)) + (Go.IntKind.wrap .i64 ((3086000 : Int) * p1)))) - (Go.IntKind.wrap .i64 ((Go.IntKind.wrap .i64 ((4193 : Int) * p2)) * p1)))), (100000 : Int))), (0 : Int)) (((0 : Int), (0 : Int)), (8 : Int)))))))))))))
set_option maxHeartbeats 4000000 in
theorem w_gravity_ReducedOf_eq (p0 : Int) (p1 : Int) (p2 : Int) (K : ((Int × Int) × Int) → Prop) : tfn F_gravity_ReducedOf A_gravity_ReducedOf C_gravity_ReducedOf P_gravity_ReducedOf R_gravity_ReducedOf (p0, p1, p2) K = w_gravity_ReducedOf p0 p1 p2 K := by kernel_rfl
def s_gravity_ReducedOf (p0 : Int) (p1 : Int) (p2 : Int) : ((Int × Int) × Int) :=
  (cond (!(cond (cond (s_gravity_isSized p0 (1000000 : Int)) (s_gravity_isSized p1 (10000 : Int)) false) (s_gravity_within p2 (0 : Int) (1000 : Int)) false)) (((0 : Int), (0 : Int)), (2 : Int))
    (cond (v_small (v_low ((Go.IntKind.wrap .i64 ((Go.IntKind.wrap .i64 ((Go.IntKind.wrap .i64 ((100000 : Int) * p0)) + (Go.IntKind.wrap .i64 ((3086000 : Int) * p1)))) - (Go.IntKind.wrap .i64 ((Go.IntKind.wrap .i64 ((4193 : Int) * p2)) * p1)))), (100000 : Int)))) ((v_low ((Go.IntKind.wrap .i64 ((Go.IntKind.wrap .i64 ((Go.IntKind.wrap .i64 ((100000 : Int) * p0)) + (Go.IntKind.wrap .i64 ((3086000 : Int) * p1)))) - (Go.IntKind.wrap .i64 ((Go.IntKind.wrap .i64 ((4193 : Int) * p2)) * p1)))), (100000 : Int))), (0 : Int)) (((0 : Int), (0 : Int)), (8 : Int))))
abbrev pre_gravity_ReducedOf (p0 : Int) (p1 : Int) (p2 : Int) : List Prop := [(((!(cond (cond (s_gravity_isSized p0 (1000000 : Int)) (s_gravity_isSized p1 (10000 : Int)) false) (s_gravity_within p2 (0 : Int) (1000 : Int)) false)) = false) → (v_fit (Go.IntKind.wrap .i64 ((Go.IntKind.wrap .i64 ((Go.IntKind.wrap .i64 ((100000 : Int) * p0)) + (Go.IntKind.wrap .i64 ((3086000 : Int) * p1)))) - (Go.IntKind.wrap .i64 ((Go.IntKind.wrap .i64 ((4193 : Int) * p2)) * p1)))))),
    (((!(cond (cond (s_gravity_isSized p0 (1000000 : Int)) (s_gravity_isSized p1 (10000 : Int)) false) (s_gravity_within p2 (0 : Int) (1000 : Int)) false)) = false) → (v_fit (100000 : Int)))]
set_option maxHeartbeats 4000000 in
theorem d_gravity_ReducedOf (p0 : Int) (p1 : Int) (p2 : Int) (K : ((Int × Int) × Int) → Prop) (hp : ∀ p ∈ pre_gravity_ReducedOf p0 p1 p2, p) (h : K (s_gravity_ReducedOf p0 p1 p2)) : w_gravity_ReducedOf p0 p1 p2 K := by
  unfold w_gravity_ReducedOf
  unfold s_gravity_ReducedOf at h
  obtain ⟨hp0, hp1, _⟩ := conj_of hp
  exact ⟨(fun _ => rfl), ⟨rfl, ⟨(fun _ => rfl), ⟨rfl, (br' h (fun e0 h => h)
    (fun e0 h => ⟨(hp0 e0), ⟨(of_decide_eq_true rfl), ⟨(hp1 e0), h⟩⟩⟩))⟩⟩⟩⟩
/-- What is reduced, times 100000. -/
def v_redn (p0 p1 p2 : Int) : Int := 100000 * p0 + 3086000 * p1 - 4193 * p2 * p1
def v_redok (p0 p1 p2 : Int) : Bool := cond (cond (s_gravity_isSized p0 1000000) (s_gravity_isSized p1 10000) false) (s_gravity_within p2 0 1000) false
theorem tx_and2 {a b : Bool} (h : (cond a b false) = true) : a = true ∧ b = true := by cases a <;> simp_all
theorem tx_redn {p0 p1 p2 : Int} (h : v_redok p0 p1 p2 = true) : IntKind.i64.wrap (IntKind.i64.wrap (IntKind.i64.wrap (100000 * p0) + IntKind.i64.wrap (3086000 * p1)) - IntKind.i64.wrap (IntKind.i64.wrap (4193 * p2) * p1)) = v_redn p0 p1 p2 ∧ v_fit (v_redn p0 p1 p2) := by
  obtain ⟨h, h3⟩ := tx_and2 (show cond (cond (s_gravity_isSized p0 1000000) (s_gravity_isSized p1 10000) false) (s_gravity_within p2 0 1000) false = true from h)
  obtain ⟨h1, h2⟩ := tx_and2 h
  have g1 : -1000000 ≤ p0 ∧ p0 ≤ 1000000 := tx_within.1 h1
  have g2 : -10000 ≤ p1 ∧ p1 ≤ 10000 := tx_within.1 h2
  have g3 := tx_within.1 h3
  have hm := mul_abs (show -4193000 ≤ 4193 * p2 by omega) (show 4193 * p2 ≤ 4193000 by omega) g2.1 g2.2
  unfold v_redn v_fit
  rw [wrap_id (n := 100000 * p0) (by omega) (by omega), wrap_id (n := 3086000 * p1) (by omega) (by omega), wrap_id (n := 4193 * p2) (by omega) (by omega), wrap_id (n := 4193 * p2 * p1) (by omega) (by omega), wrap_id (n := 100000 * p0 + 3086000 * p1) (by omega) (by omega), wrap_id (by omega) (by omega)]
  exact ⟨rfl, by omega, by omega⟩
abbrev t_gravity_ReducedOf (p0 p1 p2 : Int) : (Int × Int) × Int := cond (v_redok p0 p1 p2) (cond (v_small (v_low (v_redn p0 p1 p2, 100000))) (v_low (v_redn p0 p1 p2, 100000), 0) ((0, 0), 8)) ((0, 0), 2)
abbrev qre_gravity_ReducedOf (_ _ _ : Int) : List Prop := []
theorem pp_gravity_ReducedOf (p0 p1 p2 : Int) (_ : ∀ p ∈ qre_gravity_ReducedOf p0 p1 p2, p) : ∀ p ∈ pre_gravity_ReducedOf p0 p1 p2, p := by
  simp only [pre_gravity_ReducedOf, List.forall_mem_cons]
  have key : (!(v_redok p0 p1 p2)) = false → v_redok p0 p1 p2 = true := fun h => by simpa using h
  refine ⟨fun h => ?_, fun _ => by decide, by simp⟩
  rw [(tx_redn (key h)).1]; exact (tx_redn (key h)).2
theorem tt_gravity_ReducedOf (p0 p1 p2 : Int) (_ : ∀ p ∈ qre_gravity_ReducedOf p0 p1 p2, p) : s_gravity_ReducedOf p0 p1 p2 = t_gravity_ReducedOf p0 p1 p2 := by
  show cond (!(v_redok p0 p1 p2)) _ _ = cond (v_redok p0 p1 p2) _ _
  cases h : v_redok p0 p1 p2
  · rfl
  · rw [(tx_redn h).1]; rfl

abbrev con_gravity_ReducedOf : Con := ⟨P_gravity_ReducedOf, R_gravity_ReducedOf, fun x => qre_gravity_ReducedOf x.1 x.2.1 x.2.2, fun x => t_gravity_ReducedOf x.1 x.2.1 x.2.2⟩
theorem ok_gravity_ReducedOf : ConOk Tryd.prog 19 con_gravity_ReducedOf := ⟨k_gravity_ReducedOf, fun x hx => ret_tf (ps := P_gravity_ReducedOf) (rs := R_gravity_ReducedOf) (x := x) (y := t_gravity_ReducedOf x.1 x.2.1 x.2.2) e_gravity_ReducedOf hC_gravity_ReducedOf (tf_of (w_gravity_ReducedOf_eq x.1 x.2.1 x.2.2 (fun z => z = t_gravity_ReducedOf x.1 x.2.1 x.2.2)) (d_gravity_ReducedOf x.1 x.2.1 x.2.2 (fun z => z = t_gravity_ReducedOf x.1 x.2.1 x.2.2) (pp_gravity_ReducedOf x.1 x.2.1 x.2.2 hx) (tt_gravity_ReducedOf x.1 x.2.1 x.2.2 hx)))⟩
/- base_Mod -/
def C_base_Mod : Cons := []
theorem hC_base_Mod : ConsOk Tryd.prog C_base_Mod := ConsOk.nil
def w_base_Mod (p0 : Int) (p1 : Int) (K : Int → Prop) : Prop :=
  ((p1 ≠ (0 : Int)) ∧
  ((((decide ((Int.tmod p0 p1) < (0 : Int))) = true) →
  (K (Go.IntKind.wrap .i64 ((Int.tmod p0 p1) + p1)))) ∧
  (((decide ((Int.tmod p0 p1) < (0 : Int))) = false) →
  (K (Int.tmod p0 p1)))))
set_option maxHeartbeats 4000000 in
theorem w_base_Mod_eq (p0 : Int) (p1 : Int) (K : Int → Prop) : tfn F_base_Mod A_base_Mod C_base_Mod P_base_Mod R_base_Mod (p0, p1) K = w_base_Mod p0 p1 K := by kernel_rfl
def s_base_Mod (p0 : Int) (p1 : Int) : Int :=
  (cond (decide ((Int.tmod p0 p1) < (0 : Int))) (Go.IntKind.wrap .i64 ((Int.tmod p0 p1) + p1))
    (Int.tmod p0 p1))
abbrev pre_base_Mod (p0 : Int) (p1 : Int) : List Prop := [(p1 ≠ (0 : Int))]
set_option maxHeartbeats 4000000 in
theorem d_base_Mod (p0 : Int) (p1 : Int) (K : Int → Prop) (hp : ∀ p ∈ pre_base_Mod p0 p1, p) (h : K (s_base_Mod p0 p1)) : w_base_Mod p0 p1 K := by
  unfold w_base_Mod
  unfold s_base_Mod at h
  obtain ⟨hp0, _⟩ := conj_of hp
  exact ⟨(hp0), (br' h (fun e0 h => h)
    (fun e0 h => h))⟩
abbrev t_base_Mod (p0 p1 : Int) : Int := p0 % p1
abbrev qre_base_Mod (p0 p1 : Int) : List Prop := [0 < p1 ∧ p1 ≤ 1000000000000]
theorem pp_base_Mod (p0 p1 : Int) (hq : ∀ p ∈ qre_base_Mod p0 p1, p) : ∀ p ∈ pre_base_Mod p0 p1, p := by
  have h := (conj_of hq).1
  simp only [pre_base_Mod, List.forall_mem_cons]
  exact ⟨by omega, by simp⟩
theorem tt_base_Mod (p0 p1 : Int) (hq : ∀ p ∈ qre_base_Mod p0 p1, p) : s_base_Mod p0 p1 = t_base_Mod p0 p1 := by
  have h := (conj_of hq).1
  unfold s_base_Mod t_base_Mod
  have h1 := v_tmod_lt (a := p0) (b := p1) (by omega)
  have h2 := Int.mul_tdiv_add_tmod p0 p1
  cases c : decide (p0.tmod p1 < 0)
  · have := of_decide_eq_false c
    simp only [cond_false]
    exact ((Int.ediv_emod_unique (a := p0) (b := p1) (q := p0.tdiv p1) (r := p0.tmod p1) h.1).2 ⟨by omega, by omega, by omega⟩).2.symm
  · have := of_decide_eq_true c
    simp only [cond_true]
    rw [wrap_id (by omega) (by omega)]
    have e : p1 * (p0.tdiv p1 - 1) = p1 * p0.tdiv p1 - p1 := by rw [Int.mul_sub, Int.mul_one]
    exact ((Int.ediv_emod_unique (a := p0) (b := p1) (q := p0.tdiv p1 - 1) (r := p0.tmod p1 + p1) h.1).2 ⟨by omega, by omega, by omega⟩).2.symm

abbrev con_base_Mod : Con := ⟨P_base_Mod, R_base_Mod, fun x => qre_base_Mod x.1 x.2, fun x => t_base_Mod x.1 x.2⟩
theorem ok_base_Mod : ConOk Tryd.prog 61 con_base_Mod := ⟨k_base_Mod, fun x hx => ret_tf (ps := P_base_Mod) (rs := R_base_Mod) (x := x) (y := t_base_Mod x.1 x.2) e_base_Mod hC_base_Mod (tf_of (w_base_Mod_eq x.1 x.2 (fun z => z = t_base_Mod x.1 x.2)) (d_base_Mod x.1 x.2 (fun z => z = t_base_Mod x.1 x.2) (pp_base_Mod x.1 x.2 hx) (tt_base_Mod x.1 x.2 hx)))⟩
/- base_Size -/
def C_base_Size : Cons := []
theorem hC_base_Size : ConsOk Tryd.prog C_base_Size := ConsOk.nil
def w_base_Size (p0 : Int) (K : Int → Prop) : Prop :=
  (K (max p0 (Go.IntKind.wrap .i64 ((0 : Int) - p0))))
set_option maxHeartbeats 4000000 in
theorem w_base_Size_eq (p0 : Int) (K : Int → Prop) : tfn F_base_Size A_base_Size C_base_Size P_base_Size R_base_Size p0 K = w_base_Size p0 K := by kernel_rfl
def s_base_Size (p0 : Int) : Int :=
  (max p0 (Go.IntKind.wrap .i64 ((0 : Int) - p0)))
abbrev pre_base_Size (p0 : Int) : List Prop := []
set_option maxHeartbeats 4000000 in
theorem d_base_Size (p0 : Int) (K : Int → Prop) (hp : ∀ p ∈ pre_base_Size p0, p) (h : K (s_base_Size p0)) : w_base_Size p0 K := by
  unfold w_base_Size
  unfold s_base_Size at h
  exact h
abbrev con_base_Size : Con := ⟨P_base_Size, R_base_Size, fun x => pre_base_Size x, fun x => s_base_Size x⟩
theorem ok_base_Size : ConOk Tryd.prog 65 con_base_Size := ⟨k_base_Size, fun x hx => ret_tf (ps := P_base_Size) (rs := R_base_Size) (x := x) (y := s_base_Size x) e_base_Size hC_base_Size (tf_of (w_base_Size_eq x (fun z => z = s_base_Size x)) (d_base_Size x (fun z => z = s_base_Size x) hx rfl))⟩
/- ref05_at -/
def C_ref05_at : Cons := [(65, [], con_base_Size)]
theorem hC_ref05_at : ConsOk Tryd.prog C_ref05_at := ConsOk.cons ok_base_Size <| ConsOk.nil
def w_ref05_at (p0 : (List Int)) (p1 : Int) (K : Int → Prop) : Prop :=
  ((((decide ((s_base_Size p1) < (((List.length p0) : Nat) : Int))) = true) →
  (((0 : Int) ≤ (s_base_Size p1)) ∧
    (((s_base_Size p1) < (((List.length p0) : Nat) : Int)) ∧
    (K (List.getD p0 (Int.toNat (s_base_Size p1)) (0 : Int)))))) ∧
  (((decide ((s_base_Size p1) < (((List.length p0) : Nat) : Int))) = false) →
  (K (0 : Int))))
set_option maxHeartbeats 4000000 in
theorem w_ref05_at_eq (p0 : (List Int)) (p1 : Int) (K : Int → Prop) : tfn F_ref05_at A_ref05_at C_ref05_at P_ref05_at R_ref05_at (p0, p1) K = w_ref05_at p0 p1 K := by kernel_rfl
def s_ref05_at (p0 : (List Int)) (p1 : Int) : Int :=
  (cond (decide ((s_base_Size p1) < (((List.length p0) : Nat) : Int))) (List.getD p0 (Int.toNat (s_base_Size p1)) (0 : Int))
    (0 : Int))
abbrev pre_ref05_at (p0 : (List Int)) (p1 : Int) : List Prop := [(((decide ((s_base_Size p1) < (((List.length p0) : Nat) : Int))) = true) → ((0 : Int) ≤ (s_base_Size p1))),
    (((decide ((s_base_Size p1) < (((List.length p0) : Nat) : Int))) = true) → ((s_base_Size p1) < (((List.length p0) : Nat) : Int)))]
set_option maxHeartbeats 4000000 in
theorem d_ref05_at (p0 : (List Int)) (p1 : Int) (K : Int → Prop) (hp : ∀ p ∈ pre_ref05_at p0 p1, p) (h : K (s_ref05_at p0 p1)) : w_ref05_at p0 p1 K := by
  unfold w_ref05_at
  unfold s_ref05_at at h
  obtain ⟨hp0, hp1, _⟩ := conj_of hp
  exact (br' h (fun e0 h => ⟨(hp0 e0), ⟨(hp1 e0), h⟩⟩)
    (fun e0 h => h))
theorem tx_size {x : Int} (h : v_fit x) : s_base_Size x = x.natAbs := by
  unfold s_base_Size
  unfold v_fit at h
  rw [wrap_id (by omega) (by omega)]; omega
abbrev t_ref05_at (p0 : List Int) (p1 : Int) : Int := v_at p0 p1
abbrev qre_ref05_at (p0 : List Int) (p1 : Int) : List Prop := [v_fit p1]
theorem pp_ref05_at (p0 : List Int) (p1 : Int) (hq : ∀ p ∈ qre_ref05_at p0 p1, p) : ∀ p ∈ pre_ref05_at p0 p1, p := by
  have h := (conj_of hq).1
  have e := tx_size h
  simp only [pre_ref05_at, List.forall_mem_cons, e]
  exact ⟨fun _ => by omega, fun h => of_decide_eq_true h, by simp⟩
theorem tt_ref05_at (p0 : List Int) (p1 : Int) (hq : ∀ p ∈ qre_ref05_at p0 p1, p) : s_ref05_at p0 p1 = t_ref05_at p0 p1 := by
  have e := tx_size (conj_of hq).1
  unfold s_ref05_at t_ref05_at v_at
  rw [e, Int.toNat_natCast]
  by_cases c : p1.natAbs < p0.length
  · rw [decide_eq_true (show (p1.natAbs : Int) < (p0.length : Nat) by omega)]; rfl
  · rw [decide_eq_false (show ¬ (p1.natAbs : Int) < (p0.length : Nat) by omega), gd_out _ (by omega)]; rfl

abbrev con_ref05_at : Con := ⟨P_ref05_at, R_ref05_at, fun x => qre_ref05_at x.1 x.2, fun x => t_ref05_at x.1 x.2⟩
theorem ok_ref05_at : ConOk Tryd.prog 96 con_ref05_at := ⟨k_ref05_at, fun x hx => ret_tf (ps := P_ref05_at) (rs := R_ref05_at) (x := x) (y := t_ref05_at x.1 x.2) e_ref05_at hC_ref05_at (tf_of (w_ref05_at_eq x.1 x.2 (fun z => z = t_ref05_at x.1 x.2)) (d_ref05_at x.1 x.2 (fun z => z = t_ref05_at x.1 x.2) (pp_ref05_at x.1 x.2 hx) (tt_ref05_at x.1 x.2 hx)))⟩
/- ref05_Gain -/
def C_ref05_Gain : Cons := [(61, [], con_base_Mod), (96, [], con_ref05_at)]
theorem hC_ref05_Gain : ConsOk Tryd.prog C_ref05_Gain := ConsOk.cons ok_base_Mod <| ConsOk.cons ok_ref05_at <| ConsOk.nil
def w_ref05_Gain (p0 : (List Int)) (p1 : Int) (K : Int → Prop) : Prop :=
  (∃ n0, (loopP (fun (y1 : (Int × Int)) k2 =>
    ((((decide (y1.1 < (((List.length p0) : Nat) : Int))) = true) →
    ((((0 : Int) < (4 : Int)) ∧
      ((4 : Int) ≤ (1000000000000 : Int))) ∧
      (((0 : Int) ≤ ((Go.IntKind.wrap .i64 (y1.1 * p1)) % (4 : Int))) ∧
      ((((Go.IntKind.wrap .i64 (y1.1 * p1)) % (4 : Int)) < (((List.length ((1 : Int) :: ((0 : Int) :: ((-1 : Int) :: ((0 : Int) :: ([] : List Int)))))) : Nat) : Int)) ∧
      ((v_fit y1.1) ∧
      (k2 ((Go.IntKind.wrap .i64 (y1.1 + (1 : Int))), (Go.IntKind.wrap .i64 (y1.2 + (Go.IntKind.wrap .i64 ((List.getD ((1 : Int) :: ((0 : Int) :: ((-1 : Int) :: ((0 : Int) :: ([] : List Int))))) (Int.toNat ((Go.IntKind.wrap .i64 (y1.1 * p1)) % (4 : Int))) (0 : Int)) * (v_at p0 y1.1)))))))))))) ∧
    (((decide (y1.1 < (((List.length p0) : Nat) : Int))) = false) →
    (K y1.2)))) n0 ((Go.IntKind.wrap .i64 ((Go.IntKind.wrap .i64 ((0 : Int) - (((List.length p0) : Nat) : Int))) + (1 : Int))), (0 : Int))))
set_option maxHeartbeats 4000000 in
theorem w_ref05_Gain_eq (p0 : (List Int)) (p1 : Int) (K : Int → Prop) : tfn F_ref05_Gain A_ref05_Gain C_ref05_Gain P_ref05_Gain R_ref05_Gain (p0, p1) K = w_ref05_Gain p0 p1 K := by kernel_rfl
def st_ref05_Gain_0 (p0 : (List Int)) (p1 : Int) (y0 : (Int × Int)) : (Int × Int) ⊕ Int :=
  (cond (decide (y0.1 < (((List.length p0) : Nat) : Int))) (Sum.inl ((Go.IntKind.wrap .i64 (y0.1 + (1 : Int))), (Go.IntKind.wrap .i64 (y0.2 + (Go.IntKind.wrap .i64 ((List.getD ((1 : Int) :: ((0 : Int) :: ((-1 : Int) :: ((0 : Int) :: ([] : List Int))))) (Int.toNat ((Go.IntKind.wrap .i64 (y0.1 * p1)) % (4 : Int))) (0 : Int)) * (v_at p0 y0.1)))))))
    (Sum.inr y0.2))
abbrev sp_ref05_Gain_0 (p0 : (List Int)) (p1 : Int) (y0 : (Int × Int)) : List Prop := [(((decide (y0.1 < (((List.length p0) : Nat) : Int))) = true) → ((0 : Int) ≤ ((Go.IntKind.wrap .i64 (y0.1 * p1)) % (4 : Int)))),
    (((decide (y0.1 < (((List.length p0) : Nat) : Int))) = true) → (((Go.IntKind.wrap .i64 (y0.1 * p1)) % (4 : Int)) < (((List.length ((1 : Int) :: ((0 : Int) :: ((-1 : Int) :: ((0 : Int) :: ([] : List Int)))))) : Nat) : Int))),
    (((decide (y0.1 < (((List.length p0) : Nat) : Int))) = true) → (v_fit y0.1))]
def s_ref05_Gain (p0 : (List Int)) (p1 : Int) : Int :=
  (lpv (0 : Int) (st_ref05_Gain_0 p0 p1) ((Go.IntKind.wrap .i64 ((Go.IntKind.wrap .i64 ((0 : Int) - (((List.length p0) : Nat) : Int))) + (1 : Int))), (0 : Int)))
abbrev pre_ref05_Gain (p0 : (List Int)) (p1 : Int) : List Prop := [(OkL (st_ref05_Gain_0 p0 p1) (sp_ref05_Gain_0 p0 p1) ((Go.IntKind.wrap .i64 ((Go.IntKind.wrap .i64 ((0 : Int) - (((List.length p0) : Nat) : Int))) + (1 : Int))), (0 : Int)))]
set_option maxHeartbeats 4000000 in
theorem d_ref05_Gain (p0 : (List Int)) (p1 : Int) (K : Int → Prop) (hp : ∀ p ∈ pre_ref05_Gain p0 p1, p) (h : K (s_ref05_Gain p0 p1)) : w_ref05_Gain p0 p1 K := by
  unfold w_ref05_Gain
  unfold s_ref05_Gain at h
  obtain ⟨hp0, _⟩ := conj_of hp
  exact (loop_gen (hp0) h (fun y0 k0 hp h => by
  unfold st_ref05_Gain_0 at h; obtain ⟨hp0, hp1, hp2, _⟩ := conj_of hp
  exact (br' h (fun e1 h => ⟨(of_decide_eq_true rfl), ⟨(hp0 e1), ⟨(hp1 e1), ⟨(hp2 e1), h⟩⟩⟩⟩)
    (fun e1 h => h))))
/-- The cosine of whole quarters. -/
def v_cos (x : Int) : Int := [1, 0, -1, 0].getD (x % 4).toNat 0
theorem v_cos_in (x : Int) : (v_cos x = 1 ∨ v_cos x = 0 ∨ v_cos x = -1) := by
  unfold v_cos
  have h1 := Int.emod_nonneg x (show (4 : Int) ≠ 0 by decide)
  have h2 := Int.emod_lt_of_pos x (show (0 : Int) < 4 by decide)
  generalize x % 4 = y at *
  have : y = 0 ∨ y = 1 ∨ y = 2 ∨ y = 3 := by omega
  rcases this with rfl | rfl | rfl | rfl <;> decide
/-- The gain of a filter at a quarter. -/
def v_gain (f : List Int) (q : Int) : Int := v_sums (fun j => v_cos (((j : Int) - ((f.length : Int) - 1)) * q) * v_at f ((j : Int) - ((f.length : Int) - 1))) 0 (2 * f.length - 1)
theorem v_gain0 (f : List Int) : v_gain f 0 = v_fsum f := by
  unfold v_gain v_fsum
  refine v_sums_congr _ _ fun k _ _ => ?_
  rw [Int.mul_zero]
  show 1 * _ = _
  rw [Int.one_mul]
theorem v_cos_at {f : List Int} (h : v_fw f) (x k : Int) : -100000 ≤ v_cos x * v_at f k ∧ v_cos x * v_at f k ≤ 100000 := by
  have := h.at k
  rcases v_cos_in x with e | e | e <;> rw [e] <;> omega
theorem l_ref05_Gain (p0 : List Int) (p1 : Int) (h : v_fw p0) (hq : 0 ≤ p1 ∧ p1 ≤ 3) : OkL (st_ref05_Gain_0 p0 p1) (sp_ref05_Gain_0 p0 p1) ((Go.IntKind.wrap .i64 ((Go.IntKind.wrap .i64 ((0 : Int) - (((List.length p0) : Nat) : Int))) + (1 : Int))), (0 : Int)) ∧ s_ref05_Gain p0 p1 = v_gain p0 p1 := by
  have h1 := h.one
  have h2 := h.nine
  unfold s_ref05_Gain
  rw [wrap_id (show -9223372036854775808 ≤ (0 : Int) - ((p0.length : Nat) : Int) by omega) (by omega), wrap_id (show -9223372036854775808 ≤ (0 : Int) - ((p0.length : Nat) : Int) + 1 by omega) (by omega), show (0 : Int) - ((p0.length : Nat) : Int) + 1 = ((0 : Nat) : Int) - ((p0.length : Int) - 1) by omega]
  refine for_is (fun i t => (i - ((p0.length : Int) - 1), t)) 0 (2 * p0.length - 1) (fun j t => t = v_sums (fun j => v_cos (((j : Int) - ((p0.length : Int) - 1)) * p1) * v_at p0 ((j : Int) - ((p0.length : Int) - 1))) 0 j) (fun _ _ => v_gain p0 p1) (by omega) (by omega) ?_ ?_ 0 rfl
  · intro t ht
    have hd : decide (((2 * p0.length - 1 : Nat) : Int) - ((p0.length : Int) - 1) < (p0.length : Nat)) = false := decide_eq_false (by omega)
    refine ⟨by simp only [sp_ref05_Gain_0, List.forall_mem_cons, hd]; simp, ?_⟩
    simp only [st_ref05_Gain_0, hd, cond_false]
    rw [ht]; rfl
  · intro j t _ hj ht
    have hd : decide ((j : Int) - ((p0.length : Int) - 1) < (p0.length : Nat)) = true := decide_eq_true (by omega)
    have hp : -100 ≤ ((j : Int) - ((p0.length : Int) - 1)) * p1 ∧ ((j : Int) - ((p0.length : Int) - 1)) * p1 ≤ 100 := by
      have : p1 = 0 ∨ p1 = 1 ∨ p1 = 2 ∨ p1 = 3 := by omega
      rcases this with rfl | rfl | rfl | rfl <;> omega
    have hw : IntKind.i64.wrap (((j : Int) - ((p0.length : Int) - 1)) * p1) = ((j : Int) - ((p0.length : Int) - 1)) * p1 := wrap_id (by omega) (by omega)
    have m1 := Int.emod_nonneg (((j : Int) - ((p0.length : Int) - 1)) * p1) (show (4 : Int) ≠ 0 by decide)
    have m2 := Int.emod_lt_of_pos (((j : Int) - ((p0.length : Int) - 1)) * p1) (show (0 : Int) < 4 by decide)
    refine ⟨?_, .inl ⟨_, ?_, rfl, rfl⟩⟩
    · simp only [sp_ref05_Gain_0, List.forall_mem_cons, hw]
      exact ⟨fun _ => m1, fun _ => by simp only [List.length_cons, List.length_nil]; omega, fun _ => by unfold v_fit; omega, by simp⟩
    · have hb := v_sums_in (f := fun j => v_cos (((j : Int) - ((p0.length : Int) - 1)) * p1) * v_at p0 ((j : Int) - ((p0.length : Int) - 1))) (m := 100000) j 0 (fun k _ _ => v_cos_at h _ _)
      have ha := v_cos_at h (((j : Int) - ((p0.length : Int) - 1)) * p1) ((j : Int) - ((p0.length : Int) - 1))
      simp only [st_ref05_Gain_0, hd, cond_true, hw]
      rw [show (List.getD [1, 0, -1, 0] (((j : Int) - ((p0.length : Int) - 1)) * p1 % 4).toNat 0) = v_cos (((j : Int) - ((p0.length : Int) - 1)) * p1) from rfl, wrap_id (show -9223372036854775808 ≤ v_cos (((j : Int) - ((p0.length : Int) - 1)) * p1) * v_at p0 ((j : Int) - ((p0.length : Int) - 1)) by omega) (by omega), ht, v_sums_last, Nat.zero_add, wrap_id (by omega) (by omega), wrap_id (by omega) (by omega), show (j : Int) - ((p0.length : Int) - 1) + 1 = ((j + 1 : Nat) : Int) - ((p0.length : Int) - 1) by omega]
abbrev t_ref05_Gain (p0 : List Int) (p1 : Int) : Int := v_gain p0 p1
abbrev qre_ref05_Gain (p0 : List Int) (p1 : Int) : List Prop := [v_fw p0, 0 ≤ p1 ∧ p1 ≤ 3]
theorem pp_ref05_Gain (p0 : List Int) (p1 : Int) (hq : ∀ p ∈ qre_ref05_Gain p0 p1, p) : ∀ p ∈ pre_ref05_Gain p0 p1, p := by
  simp only [pre_ref05_Gain, List.forall_mem_cons]
  exact ⟨(l_ref05_Gain p0 p1 (conj_of hq).1 (conj_of hq).2.1).1, by simp⟩
theorem tt_ref05_Gain (p0 : List Int) (p1 : Int) (hq : ∀ p ∈ qre_ref05_Gain p0 p1, p) : s_ref05_Gain p0 p1 = t_ref05_Gain p0 p1 := (l_ref05_Gain p0 p1 (conj_of hq).1 (conj_of hq).2.1).2

abbrev con_ref05_Gain : Con := ⟨P_ref05_Gain, R_ref05_Gain, fun x => qre_ref05_Gain x.1 x.2, fun x => t_ref05_Gain x.1 x.2⟩
theorem ok_ref05_Gain : ConOk Tryd.prog 77 con_ref05_Gain := ⟨k_ref05_Gain, fun x hx => ret_tf (ps := P_ref05_Gain) (rs := R_ref05_Gain) (x := x) (y := t_ref05_Gain x.1 x.2) e_ref05_Gain hC_ref05_Gain (tf_of (w_ref05_Gain_eq x.1 x.2 (fun z => z = t_ref05_Gain x.1 x.2)) (d_ref05_Gain x.1 x.2 (fun z => z = t_ref05_Gain x.1 x.2) (pp_ref05_Gain x.1 x.2 hx) (tt_ref05_Gain x.1 x.2 hx)))⟩
/- ref05_Sum -/
def C_ref05_Sum : Cons := [(77, [], con_ref05_Gain)]
theorem hC_ref05_Sum : ConsOk Tryd.prog C_ref05_Sum := ConsOk.cons ok_ref05_Gain <| ConsOk.nil
def w_ref05_Sum (p0 : (List Int)) (K : Int → Prop) : Prop :=
  ((v_fw p0) ∧
  ((((0 : Int) ≤ (0 : Int)) ∧
  ((0 : Int) ≤ (3 : Int))) ∧
  (K (v_gain p0 (0 : Int)))))
set_option maxHeartbeats 4000000 in
theorem w_ref05_Sum_eq (p0 : (List Int)) (K : Int → Prop) : tfn F_ref05_Sum A_ref05_Sum C_ref05_Sum P_ref05_Sum R_ref05_Sum p0 K = w_ref05_Sum p0 K := by kernel_rfl
def s_ref05_Sum (p0 : (List Int)) : Int :=
  (v_gain p0 (0 : Int))
abbrev pre_ref05_Sum (p0 : (List Int)) : List Prop := [(v_fw p0)]
set_option maxHeartbeats 4000000 in
theorem d_ref05_Sum (p0 : (List Int)) (K : Int → Prop) (hp : ∀ p ∈ pre_ref05_Sum p0, p) (h : K (s_ref05_Sum p0)) : w_ref05_Sum p0 K := by
  unfold w_ref05_Sum
  unfold s_ref05_Sum at h
  obtain ⟨hp0, _⟩ := conj_of hp
  exact ⟨(hp0), ⟨(of_decide_eq_true rfl), h⟩⟩
abbrev t_ref05_Sum (p0 : List Int) : Int := v_fsum p0
abbrev qre_ref05_Sum (p0 : List Int) : List Prop := [v_fw p0]
theorem pp_ref05_Sum (p0 : List Int) (hq : ∀ p ∈ qre_ref05_Sum p0, p) : ∀ p ∈ pre_ref05_Sum p0, p := by
  simp only [pre_ref05_Sum, List.forall_mem_cons]
  exact ⟨(conj_of hq).1, by simp⟩
theorem tt_ref05_Sum (p0 : List Int) (_ : ∀ p ∈ qre_ref05_Sum p0, p) : s_ref05_Sum p0 = t_ref05_Sum p0 := v_gain0 p0

abbrev con_ref05_Sum : Con := ⟨P_ref05_Sum, R_ref05_Sum, fun x => qre_ref05_Sum x, fun x => t_ref05_Sum x⟩
theorem ok_ref05_Sum : ConOk Tryd.prog 76 con_ref05_Sum := ⟨k_ref05_Sum, fun x hx => ret_tf (ps := P_ref05_Sum) (rs := R_ref05_Sum) (x := x) (y := t_ref05_Sum x) e_ref05_Sum hC_ref05_Sum (tf_of (w_ref05_Sum_eq x (fun z => z = t_ref05_Sum x)) (d_ref05_Sum x (fun z => z = t_ref05_Sum x) (pp_ref05_Sum x hx) (tt_ref05_Sum x hx)))⟩
/- ref05_FilterErr -/
def C_ref05_FilterErr : Cons := [(60, [], con_base_Within), (76, [], con_ref05_Sum)]
theorem hC_ref05_FilterErr : ConsOk Tryd.prog C_ref05_FilterErr := ConsOk.cons ok_base_Within <| ConsOk.cons ok_ref05_Sum <| ConsOk.nil
def w_ref05_FilterErr (p0 : (List Int)) (K : Int → Prop) : Prop :=
  (((((((List.length p0) : Nat) : Int) == (0 : Int)) = true) →
  (K (10 : Int))) ∧
  ((((((List.length p0) : Nat) : Int) == (0 : Int)) = false) →
  ((((decide ((((List.length p0) : Nat) : Int) > (9 : Int))) = true) →
    (K (8 : Int))) ∧
    (((decide ((((List.length p0) : Nat) : Int) > (9 : Int))) = false) →
    (∃ n0, (loopP (fun (y1 : Int) k2 =>
        ((((decide (y1 < (((List.length p0) : Nat) : Int))) = true) →
        (((0 : Int) ≤ y1) ∧
          ((y1 < (((List.length p0) : Nat) : Int)) ∧
          ((((!(s_base_Within (List.getD p0 (Int.toNat y1) (0 : Int)) (-100000 : Int) (100000 : Int))) = true) →
          (K (2 : Int))) ∧
          (((!(s_base_Within (List.getD p0 (Int.toNat y1) (0 : Int)) (-100000 : Int) (100000 : Int))) = false) →
          (k2 (Go.IntKind.wrap .i64 (y1 + (1 : Int))))))))) ∧
        (((decide (y1 < (((List.length p0) : Nat) : Int))) = false) →
        ((v_fw p0) ∧
          ((((decide ((v_fsum p0) < (1 : Int))) = true) →
          (K (11 : Int))) ∧
          (((decide ((v_fsum p0) < (1 : Int))) = false) →
          (K (0 : Int)))))))) n0 (0 : Int)))))))
set_option maxHeartbeats 4000000 in
theorem w_ref05_FilterErr_eq (p0 : (List Int)) (K : Int → Prop) : tfn F_ref05_FilterErr A_ref05_FilterErr C_ref05_FilterErr P_ref05_FilterErr R_ref05_FilterErr p0 K = w_ref05_FilterErr p0 K := by kernel_rfl
def st_ref05_FilterErr_0 (p0 : (List Int)) (y2 : Int) : Int ⊕ Int :=
  (cond (decide (y2 < (((List.length p0) : Nat) : Int))) (cond (!(s_base_Within (List.getD p0 (Int.toNat y2) (0 : Int)) (-100000 : Int) (100000 : Int))) (Sum.inr (2 : Int))
    (Sum.inl (Go.IntKind.wrap .i64 (y2 + (1 : Int)))))
    (cond (decide ((v_fsum p0) < (1 : Int))) (Sum.inr (11 : Int))
    (Sum.inr (0 : Int))))
abbrev sp_ref05_FilterErr_0 (p0 : (List Int)) (y2 : Int) : List Prop := [(((decide (y2 < (((List.length p0) : Nat) : Int))) = true) → ((0 : Int) ≤ y2)),
    (((decide (y2 < (((List.length p0) : Nat) : Int))) = true) → (y2 < (((List.length p0) : Nat) : Int))),
    (((decide (y2 < (((List.length p0) : Nat) : Int))) = false) → (v_fw p0))]
def s_ref05_FilterErr (p0 : (List Int)) : Int :=
  (cond ((((List.length p0) : Nat) : Int) == (0 : Int)) (10 : Int)
    (cond (decide ((((List.length p0) : Nat) : Int) > (9 : Int))) (8 : Int)
    (lpv (0 : Int) (st_ref05_FilterErr_0 p0) (0 : Int))))
abbrev pre_ref05_FilterErr (p0 : (List Int)) : List Prop := [((((((List.length p0) : Nat) : Int) == (0 : Int)) = false) → (((decide ((((List.length p0) : Nat) : Int) > (9 : Int))) = false) → (OkL (st_ref05_FilterErr_0 p0) (sp_ref05_FilterErr_0 p0) (0 : Int))))]
set_option maxHeartbeats 4000000 in
theorem d_ref05_FilterErr (p0 : (List Int)) (K : Int → Prop) (hp : ∀ p ∈ pre_ref05_FilterErr p0, p) (h : K (s_ref05_FilterErr p0)) : w_ref05_FilterErr p0 K := by
  unfold w_ref05_FilterErr
  unfold s_ref05_FilterErr at h
  obtain ⟨hp0, _⟩ := conj_of hp
  exact (br' h (fun e0 h => h)
    (fun e0 h => (br' h (fun e1 h => h)
    (fun e1 h => (loop_gen (hp0 e0 e1) h (fun y2 k2 hp h => by
  unfold st_ref05_FilterErr_0 at h; obtain ⟨hp0, hp1, hp2, _⟩ := conj_of hp
  exact (br' h (fun e3 h => ⟨(hp0 e3), ⟨(hp1 e3), (br' h (fun e4 h => h)
    (fun e4 h => h))⟩⟩)
    (fun e3 h => ⟨(hp2 e3), (br' h (fun e5 h => h)
    (fun e5 h => h))⟩))))))))
theorem tx_filerr {p0 : List Int} (h1 : 1 ≤ p0.length) (h9 : p0.length ≤ 9) : v_filerr p0 = cond (v_any_slices_ContainsFuncint_int__gravity_CheckFilter_1 p0) 2 (s_gravity_unless (decide (v_fsum p0 > 0)) 11) := by
  unfold v_filerr v_fw0
  rw [decide_eq_true (show (p0.length : Int) > 0 by omega), decide_eq_true (show (p0.length : Int) ≤ 9 by omega)]
  cases v_any_slices_ContainsFuncint_int__gravity_CheckFilter_1 p0 <;> rfl
theorem l_ref05_FilterErr (p0 : List Int) (h1 : 1 ≤ p0.length) (h9 : p0.length ≤ 9) : OkL (st_ref05_FilterErr_0 p0) (sp_ref05_FilterErr_0 p0) 0 ∧ lpv 0 (st_ref05_FilterErr_0 p0) 0 = v_filerr p0 := by
  have hc : ∀ x, (!(s_base_Within x (-100000) 100000)) = s_gravity_CheckFilter_1 x := fun x => rfl
  refine for_is (fun i (_ : Unit) => i) 0 p0.length (fun j _ => ∀ k, k < j → s_gravity_CheckFilter_1 (p0.getD k 0) = false) (fun _ _ => v_filerr p0) (by omega) (by omega) ?_ ?_ () (fun k hk => by omega)
  · intro t hi
    have hd : decide ((p0.length : Int) < (p0.length : Nat)) = false := decide_eq_false (by omega)
    have ha : v_any_slices_ContainsFuncint_int__gravity_CheckFilter_1 p0 = false := by
      refine List.any_eq_false.2 fun x hx => ?_
      obtain ⟨k, hk, rfl⟩ := List.mem_iff_getElem.1 hx
      rw [← gd_get 0 hk, hi k hk]; simp
    have hw : v_fw p0 := by
      refine ⟨h1, h9, fun x hx => ?_⟩
      have := List.any_eq_false.1 ha x hx
      exact tx_sized.1 (by simpa [s_gravity_CheckFilter_1] using this)
    refine ⟨by simp only [sp_ref05_FilterErr_0, List.forall_mem_cons, decide_eq_true_eq]; exact ⟨fun h => by omega, fun h => by omega, fun _ => hw, by simp⟩, ?_⟩
    simp only [st_ref05_FilterErr_0, hd, cond_false]
    rw [tx_filerr h1 h9, ha]
    rcases Int.lt_or_le (v_fsum p0) 1 with c | c
    · rw [decide_eq_true c, decide_eq_false (by omega)]; rfl
    · rw [decide_eq_false (by omega), decide_eq_true (by omega)]; rfl
  · intro j t _ hj hi
    have hd : decide ((j : Int) < (p0.length : Nat)) = true := decide_eq_true (by omega)
    refine ⟨by simp only [sp_ref05_FilterErr_0, List.forall_mem_cons, decide_eq_true_eq, decide_eq_false_iff_not]; exact ⟨fun _ => by omega, fun _ => by omega, fun h => absurd hj (by omega), by simp⟩, ?_⟩
    simp only [st_ref05_FilterErr_0, hd, cond_true, hc, Int.toNat_natCast]
    cases c : s_gravity_CheckFilter_1 (p0.getD j 0)
    · refine .inl ⟨(), by rw [wrap_nat (by omega)]; rfl, fun k hk => ?_, trivial⟩
      by_cases e : k = j
      · rw [e]; exact c
      · exact hi k (by omega)
    · refine .inr ?_
      rw [tx_filerr h1 h9, show v_any_slices_ContainsFuncint_int__gravity_CheckFilter_1 p0 = true from List.any_eq_true.2 ⟨_, getD_mem' 0 hj, c⟩]; rfl
abbrev t_ref05_FilterErr (p0 : List Int) : Int := v_filerr p0
abbrev qre_ref05_FilterErr (_ : List Int) : List Prop := []
theorem l_ref05_FilterErr0 {p0 : List Int} (h : ((p0.length : Int) == 0) = false) (h2 : decide ((p0.length : Int) > 9) = false) : 1 ≤ p0.length ∧ p0.length ≤ 9 := by
  have e1 : ¬ (p0.length : Int) = 0 := by simpa using h
  have e2 := of_decide_eq_false h2
  omega
theorem pp_ref05_FilterErr (p0 : List Int) (_ : ∀ p ∈ qre_ref05_FilterErr p0, p) : ∀ p ∈ pre_ref05_FilterErr p0, p := by
  simp only [pre_ref05_FilterErr, List.forall_mem_cons]
  exact ⟨fun h h2 => (l_ref05_FilterErr p0 (l_ref05_FilterErr0 h h2).1 (l_ref05_FilterErr0 h h2).2).1, by simp⟩
theorem tt_ref05_FilterErr (p0 : List Int) (_ : ∀ p ∈ qre_ref05_FilterErr p0, p) : s_ref05_FilterErr p0 = t_ref05_FilterErr p0 := by
  unfold s_ref05_FilterErr t_ref05_FilterErr
  cases h : ((p0.length : Int) == 0)
  · cases h2 : decide ((p0.length : Int) > 9)
    · exact (l_ref05_FilterErr p0 (l_ref05_FilterErr0 h h2).1 (l_ref05_FilterErr0 h h2).2).2
    · have := of_decide_eq_true h2
      unfold v_filerr v_fw0
      rw [decide_eq_true (show (p0.length : Int) > 0 by omega), decide_eq_false (show ¬ (p0.length : Int) ≤ 9 by omega)]; rfl
  · have : (p0.length : Int) = 0 := by simpa using h
    unfold v_filerr v_fw0
    rw [this]; rfl

abbrev con_ref05_FilterErr : Con := ⟨P_ref05_FilterErr, R_ref05_FilterErr, fun x => qre_ref05_FilterErr x, fun x => t_ref05_FilterErr x⟩
theorem ok_ref05_FilterErr : ConOk Tryd.prog 20 con_ref05_FilterErr := ⟨k_ref05_FilterErr, fun x hx => ret_tf (ps := P_ref05_FilterErr) (rs := R_ref05_FilterErr) (x := x) (y := t_ref05_FilterErr x) e_ref05_FilterErr hC_ref05_FilterErr (tf_of (w_ref05_FilterErr_eq x (fun z => z = t_ref05_FilterErr x)) (d_ref05_FilterErr x (fun z => z = t_ref05_FilterErr x) (pp_ref05_FilterErr x hx) (tt_ref05_FilterErr x hx)))⟩
/- ref05_Composed -/
def C_ref05_Composed : Cons := [(96, [], con_ref05_at), (60, [], con_base_Within)]
theorem hC_ref05_Composed : ConsOk Tryd.prog C_ref05_Composed := ConsOk.cons ok_ref05_at <| ConsOk.cons ok_base_Within <| ConsOk.nil
def w_ref05_Composed (p0 : (List Int)) (p1 : (List Int)) (K : ((List Int) × Bool) → Prop) : Prop :=
  ((((decide ((Go.IntKind.wrap .i64 ((Go.IntKind.wrap .i64 ((((List.length p0) : Nat) : Int) + (((List.length p1) : Nat) : Int))) - (1 : Int))) > (9 : Int))) = true) →
  (K (([] : List Int), false))) ∧
  (((decide ((Go.IntKind.wrap .i64 ((Go.IntKind.wrap .i64 ((((List.length p0) : Nat) : Int) + (((List.length p1) : Nat) : Int))) - (1 : Int))) > (9 : Int))) = false) →
  (∃ n0, (loopP (fun (y1 : (Int × (List Int))) k2 =>
      ((((decide (y1.1 < (Go.IntKind.wrap .i64 ((Go.IntKind.wrap .i64 ((((List.length p0) : Nat) : Int) + (((List.length p1) : Nat) : Int))) - (1 : Int))))) = true) →
      (∃ n3, (loopP (fun (y4 : (Int × Int)) k5 =>
          ((((decide (y4.1 ≤ (Go.IntKind.wrap .i64 ((Go.IntKind.wrap .i64 ((((List.length p0) : Nat) : Int) + (((List.length p1) : Nat) : Int))) - (1 : Int))))) = true) →
          ((v_fit y4.1) ∧
            ((v_fit (Go.IntKind.wrap .i64 (y1.1 - y4.1))) ∧
            (k5 ((Go.IntKind.wrap .i64 (y4.1 + (1 : Int))), (Go.IntKind.wrap .i64 (y4.2 + (Go.IntKind.wrap .i64 ((v_at p0 y4.1) * (v_at p1 (Go.IntKind.wrap .i64 (y1.1 - y4.1)))))))))))) ∧
          (((decide (y4.1 ≤ (Go.IntKind.wrap .i64 ((Go.IntKind.wrap .i64 ((((List.length p0) : Nat) : Int) + (((List.length p1) : Nat) : Int))) - (1 : Int))))) = false) →
          ((((!(s_base_Within y4.2 (-100000 : Int) (100000 : Int))) = true) →
            (K (([] : List Int), false))) ∧
            (((!(s_base_Within y4.2 (-100000 : Int) (100000 : Int))) = false) →
            (((((List.length y1.2) + (List.length (y4.2 :: ([] : List Int)))) * 8) ≤ 140737488355328) ∧
              (k2 ((Go.IntKind.wrap .i64 (y1.1 + (1 : Int))), (y1.2 ++ (y4.2 :: ([] : List Int))))))))))) n3 ((Go.IntKind.wrap .i64 ((0 : Int) - (Go.IntKind.wrap .i64 ((Go.IntKind.wrap .i64 ((((List.length p0) : Nat) : Int) + (((List.length p1) : Nat) : Int))) - (1 : Int))))), (0 : Int))))) ∧
      (((decide (y1.1 < (Go.IntKind.wrap .i64 ((Go.IntKind.wrap .i64 ((((List.length p0) : Nat) : Int) + (((List.length p1) : Nat) : Int))) - (1 : Int))))) = false) →
      (K (y1.2, true))))) n0 ((0 : Int), ([] : List Int))))))
set_option maxHeartbeats 4000000 in
theorem w_ref05_Composed_eq (p0 : (List Int)) (p1 : (List Int)) (K : ((List Int) × Bool) → Prop) : tfn F_ref05_Composed A_ref05_Composed C_ref05_Composed P_ref05_Composed R_ref05_Composed (p0, p1) K = w_ref05_Composed p0 p1 K := by kernel_rfl
def st_ref05_Composed_0 (p0 : (List Int)) (p1 : (List Int)) (y1 : (Int × (List Int))) (y3 : (Int × Int)) : (Int × Int) ⊕ ((Int × (List Int)) ⊕ ((List Int) × Bool)) :=
  (cond (decide (y3.1 ≤ (Go.IntKind.wrap .i64 ((Go.IntKind.wrap .i64 ((((List.length p0) : Nat) : Int) + (((List.length p1) : Nat) : Int))) - (1 : Int))))) (Sum.inl ((Go.IntKind.wrap .i64 (y3.1 + (1 : Int))), (Go.IntKind.wrap .i64 (y3.2 + (Go.IntKind.wrap .i64 ((v_at p0 y3.1) * (v_at p1 (Go.IntKind.wrap .i64 (y1.1 - y3.1)))))))))
    (cond (!(s_base_Within y3.2 (-100000 : Int) (100000 : Int))) (Sum.inr (Sum.inr (([] : List Int), false)))
    (Sum.inr (Sum.inl ((Go.IntKind.wrap .i64 (y1.1 + (1 : Int))), (y1.2 ++ (y3.2 :: ([] : List Int))))))))
abbrev sp_ref05_Composed_0 (p0 : (List Int)) (p1 : (List Int)) (y1 : (Int × (List Int))) (y3 : (Int × Int)) : List Prop := [(((decide (y3.1 ≤ (Go.IntKind.wrap .i64 ((Go.IntKind.wrap .i64 ((((List.length p0) : Nat) : Int) + (((List.length p1) : Nat) : Int))) - (1 : Int))))) = true) → (v_fit y3.1)),
    (((decide (y3.1 ≤ (Go.IntKind.wrap .i64 ((Go.IntKind.wrap .i64 ((((List.length p0) : Nat) : Int) + (((List.length p1) : Nat) : Int))) - (1 : Int))))) = true) → (v_fit (Go.IntKind.wrap .i64 (y1.1 - y3.1)))),
    (((decide (y3.1 ≤ (Go.IntKind.wrap .i64 ((Go.IntKind.wrap .i64 ((((List.length p0) : Nat) : Int) + (((List.length p1) : Nat) : Int))) - (1 : Int))))) = false) → (((!(s_base_Within y3.2 (-100000 : Int) (100000 : Int))) = false) → ((((List.length y1.2) + (List.length (y3.2 :: ([] : List Int)))) * 8) ≤ 140737488355328)))]
def st_ref05_Composed_1 (p0 : (List Int)) (p1 : (List Int)) (y1 : (Int × (List Int))) : (Int × (List Int)) ⊕ ((List Int) × Bool) :=
  (cond (decide (y1.1 < (Go.IntKind.wrap .i64 ((Go.IntKind.wrap .i64 ((((List.length p0) : Nat) : Int) + (((List.length p1) : Nat) : Int))) - (1 : Int))))) (lpv (Sum.inr ([], false)) (st_ref05_Composed_0 p0 p1 y1) ((Go.IntKind.wrap .i64 ((0 : Int) - (Go.IntKind.wrap .i64 ((Go.IntKind.wrap .i64 ((((List.length p0) : Nat) : Int) + (((List.length p1) : Nat) : Int))) - (1 : Int))))), (0 : Int)))
    (Sum.inr (y1.2, true)))
abbrev sp_ref05_Composed_1 (p0 : (List Int)) (p1 : (List Int)) (y1 : (Int × (List Int))) : List Prop := [(((decide (y1.1 < (Go.IntKind.wrap .i64 ((Go.IntKind.wrap .i64 ((((List.length p0) : Nat) : Int) + (((List.length p1) : Nat) : Int))) - (1 : Int))))) = true) → (OkL (st_ref05_Composed_0 p0 p1 y1) (sp_ref05_Composed_0 p0 p1 y1) ((Go.IntKind.wrap .i64 ((0 : Int) - (Go.IntKind.wrap .i64 ((Go.IntKind.wrap .i64 ((((List.length p0) : Nat) : Int) + (((List.length p1) : Nat) : Int))) - (1 : Int))))), (0 : Int))))]
def s_ref05_Composed (p0 : (List Int)) (p1 : (List Int)) : ((List Int) × Bool) :=
  (cond (decide ((Go.IntKind.wrap .i64 ((Go.IntKind.wrap .i64 ((((List.length p0) : Nat) : Int) + (((List.length p1) : Nat) : Int))) - (1 : Int))) > (9 : Int))) (([] : List Int), false)
    (lpv ([], false) (st_ref05_Composed_1 p0 p1) ((0 : Int), ([] : List Int))))
abbrev pre_ref05_Composed (p0 : (List Int)) (p1 : (List Int)) : List Prop := [(((decide ((Go.IntKind.wrap .i64 ((Go.IntKind.wrap .i64 ((((List.length p0) : Nat) : Int) + (((List.length p1) : Nat) : Int))) - (1 : Int))) > (9 : Int))) = false) → (OkL (st_ref05_Composed_1 p0 p1) (sp_ref05_Composed_1 p0 p1) ((0 : Int), ([] : List Int))))]
set_option maxHeartbeats 4000000 in
theorem d_ref05_Composed (p0 : (List Int)) (p1 : (List Int)) (K : ((List Int) × Bool) → Prop) (hp : ∀ p ∈ pre_ref05_Composed p0 p1, p) (h : K (s_ref05_Composed p0 p1)) : w_ref05_Composed p0 p1 K := by
  unfold w_ref05_Composed
  unfold s_ref05_Composed at h
  obtain ⟨hp0, _⟩ := conj_of hp
  exact (br' h (fun e0 h => h)
    (fun e0 h => (loop_gen (hp0 e0) h (fun y1 k1 hp h => by
  unfold st_ref05_Composed_1 at h; obtain ⟨hp0, _⟩ := conj_of hp
  exact (br' h (fun e2 h => (loop_gen (hp0 e2) h (fun y3 k3 hp h => by
  unfold st_ref05_Composed_0 at h; obtain ⟨hp0, hp1, hp2, _⟩ := conj_of hp
  exact (br' h (fun e4 h => ⟨(hp0 e4), ⟨(hp1 e4), h⟩⟩)
    (fun e4 h => (br' h (fun e5 h => h)
    (fun e5 h => ⟨(hp2 e4 e5), h⟩)))))))
    (fun e2 h => h))))))
theorem v_conv_sum {p0 p1 : List Int} (a1 : 1 ≤ p0.length) (b1 : 1 ≤ p1.length) {k : Nat} (hk : k < p0.length + p1.length - 1) : v_sums (fun j => v_at p0 ((j : Int) - ((p0.length + p1.length - 1 : Nat) : Int)) * v_at p1 ((k : Int) - ((j : Int) - ((p0.length + p1.length - 1 : Nat) : Int)))) 0 (2 * (p0.length + p1.length - 1) + 1) = (v_conv p0 p1).getD k 0 := by
  rw [v_conv_get hk, show 2 * (p0.length + p1.length - 1) + 1 = p1.length + ((2 * p0.length - 1) + p1.length) by omega, v_sums_app, v_sums_app, v_sums_zero p1.length 0 (fun j h1 h2 => by rw [v_at_out (f := p0) (by omega), Int.zero_mul]), v_sums_zero p1.length (0 + p1.length + (2 * p0.length - 1)) (fun j h1 h2 => by rw [v_at_out (f := p0) (by omega), Int.zero_mul]), v_sums_shift, Int.zero_add, Int.add_zero]
  refine v_sums_congr _ _ fun j _ _ => ?_
  congr 2 <;> omega
theorem l_ref05_Composed_0 (p0 p1 : List Int) (h0 : v_fw p0) (h1 : v_fw p1) (k : Nat) (hk : k < p0.length + p1.length - 1) (hn : IntKind.i64.wrap (IntKind.i64.wrap (((p0.length : Nat) : Int) + ((p1.length : Nat) : Int)) - 1) = ((p0.length + p1.length - 1 : Nat) : Int)) (l : List Int) (hl : l.length = k) : OkL (st_ref05_Composed_0 p0 p1 ((k : Int), l)) (sp_ref05_Composed_0 p0 p1 ((k : Int), l)) (0 - ((p0.length + p1.length - 1 : Nat) : Int), 0) ∧ lpv (Sum.inr ([], false)) (st_ref05_Composed_0 p0 p1 ((k : Int), l)) (0 - ((p0.length + p1.length - 1 : Nat) : Int), 0) = cond (s_gravity_Composed_1 ((v_conv p0 p1).getD k 0)) (Sum.inr ([], false)) (Sum.inl (((k + 1 : Nat) : Int), l ++ [(v_conv p0 p1).getD k 0])) := by
  have a1 := h0.one
  have a9 := h0.nine
  have b1 := h1.one
  have b9 := h1.nine
  have hc : ∀ x, (!(s_base_Within x (-100000) 100000)) = s_gravity_Composed_1 x := fun x => rfl
  refine for_is (fun i t => (i - ((p0.length + p1.length - 1 : Nat) : Int), t)) 0 (2 * (p0.length + p1.length - 1) + 1) (fun j t => t = v_sums (fun j => v_at p0 ((j : Int) - ((p0.length + p1.length - 1 : Nat) : Int)) * v_at p1 ((k : Int) - ((j : Int) - ((p0.length + p1.length - 1 : Nat) : Int)))) 0 j) (fun _ _ => cond (s_gravity_Composed_1 ((v_conv p0 p1).getD k 0)) (Sum.inr ([], false)) (Sum.inl (((k + 1 : Nat) : Int), l ++ [(v_conv p0 p1).getD k 0]))) (by omega) (by omega) ?_ ?_ _ rfl
  · intro t ht
    rw [v_conv_sum a1 b1 hk] at ht
    have hd : decide (((2 * (p0.length + p1.length - 1) + 1 : Nat) : Int) - ((p0.length + p1.length - 1 : Nat) : Int) ≤ ((p0.length + p1.length - 1 : Nat) : Int)) = false := decide_eq_false (by omega)
    refine ⟨?_, ?_⟩
    · simp only [sp_ref05_Composed_0, List.forall_mem_cons, hn]
      have no : ∀ {p : Prop}, decide (((2 * (p0.length + p1.length - 1) + 1 : Nat) : Int) - ((p0.length + p1.length - 1 : Nat) : Int) ≤ ((p0.length + p1.length - 1 : Nat) : Int)) = true → p := fun h => by rw [hd] at h; cases h
      exact ⟨no, no, fun _ _ => by simp only [List.length_cons, List.length_nil]; omega, by simp⟩
    · simp only [st_ref05_Composed_0, hn, hd, cond_false, hc, ht, wrap_nat (show (k : Int) ≤ 9223372036854775806 by omega)]
      cases s_gravity_Composed_1 ((v_conv p0 p1).getD k 0) <;> rfl
  · intro j t _ hj ht
    have hd : decide ((j : Int) - ((p0.length + p1.length - 1 : Nat) : Int) ≤ ((p0.length + p1.length - 1 : Nat) : Int)) = true := decide_eq_true (by omega)
    have hw : IntKind.i64.wrap ((k : Int) - ((j : Int) - ((p0.length + p1.length - 1 : Nat) : Int))) = (k : Int) - ((j : Int) - ((p0.length + p1.length - 1 : Nat) : Int)) := wrap_id (by omega) (by omega)
    refine ⟨?_, .inl ⟨_, ?_, rfl, rfl⟩⟩
    · simp only [sp_ref05_Composed_0, List.forall_mem_cons, hn, hw]
      exact ⟨fun _ => by unfold v_fit; omega, fun _ => by unfold v_fit; omega, fun h => (by rw [hd] at h; cases h), by simp⟩
    · have hm := v_at_mul h0 h1 ((j : Int) - ((p0.length + p1.length - 1 : Nat) : Int)) ((k : Int) - ((j : Int) - ((p0.length + p1.length - 1 : Nat) : Int)))
      have hs := v_sums_in (f := fun j => v_at p0 ((j : Int) - ((p0.length + p1.length - 1 : Nat) : Int)) * v_at p1 ((k : Int) - ((j : Int) - ((p0.length + p1.length - 1 : Nat) : Int)))) (m := 10000000000) j 0 (fun _ _ _ => v_at_mul h0 h1 _ _)
      simp only [st_ref05_Composed_0, hn, hd, cond_true, hw, ht]
      rw [v_sums_last, Nat.zero_add, wrap_id (n := v_at p0 ((j : Int) - ((p0.length + p1.length - 1 : Nat) : Int)) * v_at p1 ((k : Int) - ((j : Int) - ((p0.length + p1.length - 1 : Nat) : Int)))) (by omega) (by omega), wrap_id (by omega) (by omega), wrap_id (by omega) (by omega), show (j : Int) - ((p0.length + p1.length - 1 : Nat) : Int) + 1 = ((j + 1 : Nat) : Int) - ((p0.length + p1.length - 1 : Nat) : Int) by omega]
theorem l_ref05_Composed (p0 p1 : List Int) (h0 : v_fw p0) (h1 : v_fw p1) (hn : IntKind.i64.wrap (IntKind.i64.wrap (((p0.length : Nat) : Int) + ((p1.length : Nat) : Int)) - 1) = ((p0.length + p1.length - 1 : Nat) : Int)) : OkL (st_ref05_Composed_1 p0 p1) (sp_ref05_Composed_1 p0 p1) (0, []) ∧ lpv ([], false) (st_ref05_Composed_1 p0 p1) (0, []) = cond (v_any_slices_ContainsFuncint_int__gravity_Composed_1 (v_conv p0 p1)) ([], false) (v_conv p0 p1, true) := by
  have a1 := h0.one
  have a9 := h0.nine
  have b1 := h1.one
  have b9 := h1.nine
  have hl := v_conv_len p0 p1
  refine for_is (fun i t => (i, t)) 0 (p0.length + p1.length - 1) (fun j t => t = (v_conv p0 p1).take j ∧ ∀ k, k < j → s_gravity_Composed_1 ((v_conv p0 p1).getD k 0) = false) (fun _ _ => cond (v_any_slices_ContainsFuncint_int__gravity_Composed_1 (v_conv p0 p1)) ([], false) (v_conv p0 p1, true)) (by omega) (by omega) ?_ ?_ _ ⟨rfl, fun k hk => by omega⟩
  · rintro t ⟨rfl, hi⟩
    have hd : decide (((p0.length + p1.length - 1 : Nat) : Int) < ((p0.length + p1.length - 1 : Nat) : Int)) = false := decide_eq_false (by omega)
    have ha : v_any_slices_ContainsFuncint_int__gravity_Composed_1 (v_conv p0 p1) = false := by
      refine List.any_eq_false.2 fun x hx => ?_
      obtain ⟨k, hk, rfl⟩ := List.mem_iff_getElem.1 hx
      rw [← gd_get 0 hk, hi k (by omega)]; simp
    refine ⟨by simp only [sp_ref05_Composed_1, List.forall_mem_cons, hn]; exact ⟨fun h => (by rw [hd] at h; cases h), by simp⟩, ?_⟩
    simp only [st_ref05_Composed_1, hn, hd, cond_false, ha]
    rw [List.take_of_length_le (by omega)]
  · rintro j t _ hj ⟨rfl, hi⟩
    have hd : decide ((j : Int) < ((p0.length + p1.length - 1 : Nat) : Int)) = true := decide_eq_true (by omega)
    have hw : IntKind.i64.wrap ((0 : Int) - ((p0.length + p1.length - 1 : Nat) : Int)) = 0 - ((p0.length + p1.length - 1 : Nat) : Int) := wrap_id (by omega) (by omega)
    obtain ⟨l1, l2⟩ := l_ref05_Composed_0 p0 p1 h0 h1 j hj hn ((v_conv p0 p1).take j) (by rw [List.length_take]; omega)
    refine ⟨by simp only [sp_ref05_Composed_1, List.forall_mem_cons, hn, hw]; exact ⟨fun _ => l1, by simp⟩, ?_⟩
    simp only [st_ref05_Composed_1, hn, hd, cond_true, hw, l2]
    cases c : s_gravity_Composed_1 ((v_conv p0 p1).getD j 0)
    · refine .inl ⟨(v_conv p0 p1).take (j + 1), ?_, ⟨rfl, fun k hk => ?_⟩, trivial⟩
      · rw [List.take_add_one, List.getElem?_eq_getElem (by omega), gd_get 0 (by omega)]; rfl
      · by_cases e : k = j
        · rw [e]; exact c
        · exact hi k (by omega)
    · refine .inr ?_
      rw [show v_any_slices_ContainsFuncint_int__gravity_Composed_1 (v_conv p0 p1) = true from List.any_eq_true.2 ⟨_, getD_mem' 0 (by omega), c⟩]; rfl
abbrev t_ref05_Composed (p0 p1 : List Int) : List Int × Bool := cond (decide ((p0.length : Int) + p1.length - 1 > 9)) ([], false) (cond (v_any_slices_ContainsFuncint_int__gravity_Composed_1 (v_conv p0 p1)) ([], false) (v_conv p0 p1, true))
abbrev qre_ref05_Composed (p0 p1 : List Int) : List Prop := [v_fw p0, v_fw p1]
theorem l_ref05_Composed1 {p0 p1 : List Int} (h0 : v_fw p0) (h1 : v_fw p1) : IntKind.i64.wrap (IntKind.i64.wrap (((p0.length : Nat) : Int) + ((p1.length : Nat) : Int)) - 1) = ((p0.length + p1.length - 1 : Nat) : Int) := by
  have a1 := h0.one
  have a9 := h0.nine
  have b1 := h1.one
  have b9 := h1.nine
  rw [wrap_id (n := ((p0.length : Nat) : Int) + ((p1.length : Nat) : Int)) (by omega) (by omega), wrap_id (by omega) (by omega)]; omega
theorem pp_ref05_Composed (p0 p1 : List Int) (hq : ∀ p ∈ qre_ref05_Composed p0 p1, p) : ∀ p ∈ pre_ref05_Composed p0 p1, p := by
  obtain ⟨h0, h1, _⟩ := conj_of hq
  simp only [pre_ref05_Composed, List.forall_mem_cons]
  exact ⟨fun _ => (l_ref05_Composed p0 p1 h0 h1 (l_ref05_Composed1 h0 h1)).1, by simp⟩
theorem tt_ref05_Composed (p0 p1 : List Int) (hq : ∀ p ∈ qre_ref05_Composed p0 p1, p) : s_ref05_Composed p0 p1 = t_ref05_Composed p0 p1 := by
  obtain ⟨h0, h1, _⟩ := conj_of hq
  have a1 := h0.one
  unfold s_ref05_Composed t_ref05_Composed
  rw [(l_ref05_Composed p0 p1 h0 h1 (l_ref05_Composed1 h0 h1)).2, l_ref05_Composed1 h0 h1, show ((p0.length + p1.length - 1 : Nat) : Int) = (p0.length : Int) + p1.length - 1 by omega]

abbrev con_ref05_Composed : Con := ⟨P_ref05_Composed, R_ref05_Composed, fun x => qre_ref05_Composed x.1 x.2, fun x => t_ref05_Composed x.1 x.2⟩
theorem ok_ref05_Composed : ConOk Tryd.prog 21 con_ref05_Composed := ⟨k_ref05_Composed, fun x hx => ret_tf (ps := P_ref05_Composed) (rs := R_ref05_Composed) (x := x) (y := t_ref05_Composed x.1 x.2) e_ref05_Composed hC_ref05_Composed (tf_of (w_ref05_Composed_eq x.1 x.2 (fun z => z = t_ref05_Composed x.1 x.2)) (d_ref05_Composed x.1 x.2 (fun z => z = t_ref05_Composed x.1 x.2) (pp_ref05_Composed x.1 x.2 hx) (tt_ref05_Composed x.1 x.2 hx)))⟩
/- base_Ints -/
def C_base_Ints : Cons := []
theorem hC_base_Ints : ConsOk Tryd.prog C_base_Ints := ConsOk.nil
def w_base_Ints (p0 : (List Int)) (p1 : (List Int)) (K : Bool → Prop) : Prop :=
  (((((((List.length p0) : Nat) : Int) != (((List.length p1) : Nat) : Int)) = true) →
  (K false)) ∧
  ((((((List.length p0) : Nat) : Int) != (((List.length p1) : Nat) : Int)) = false) →
  (∃ n0, (loopP (fun (y1 : Int) k2 =>
      ((((decide (y1 < (((List.length p0) : Nat) : Int))) = true) →
      (((0 : Int) ≤ y1) ∧
        ((y1 < (((List.length p0) : Nat) : Int)) ∧
        (((0 : Int) ≤ y1) ∧
        ((y1 < (((List.length p1) : Nat) : Int)) ∧
        (((((List.getD p0 (Int.toNat y1) (0 : Int)) != (List.getD p1 (Int.toNat y1) (0 : Int))) = true) →
        (K false)) ∧
        ((((List.getD p0 (Int.toNat y1) (0 : Int)) != (List.getD p1 (Int.toNat y1) (0 : Int))) = false) →
        (k2 (Go.IntKind.wrap .i64 (y1 + (1 : Int))))))))))) ∧
      (((decide (y1 < (((List.length p0) : Nat) : Int))) = false) →
      (K true)))) n0 (0 : Int)))))
set_option maxHeartbeats 4000000 in
theorem w_base_Ints_eq (p0 : (List Int)) (p1 : (List Int)) (K : Bool → Prop) : tfn F_base_Ints A_base_Ints C_base_Ints P_base_Ints R_base_Ints (p0, p1) K = w_base_Ints p0 p1 K := by kernel_rfl
def st_base_Ints_0 (p0 : (List Int)) (p1 : (List Int)) (y1 : Int) : Int ⊕ Bool :=
  (cond (decide (y1 < (((List.length p0) : Nat) : Int))) (cond ((List.getD p0 (Int.toNat y1) (0 : Int)) != (List.getD p1 (Int.toNat y1) (0 : Int))) (Sum.inr false)
    (Sum.inl (Go.IntKind.wrap .i64 (y1 + (1 : Int)))))
    (Sum.inr true))
abbrev sp_base_Ints_0 (p0 : (List Int)) (p1 : (List Int)) (y1 : Int) : List Prop := [(((decide (y1 < (((List.length p0) : Nat) : Int))) = true) → ((0 : Int) ≤ y1)),
    (((decide (y1 < (((List.length p0) : Nat) : Int))) = true) → (y1 < (((List.length p0) : Nat) : Int))),
    (((decide (y1 < (((List.length p0) : Nat) : Int))) = true) → (y1 < (((List.length p1) : Nat) : Int)))]
def s_base_Ints (p0 : (List Int)) (p1 : (List Int)) : Bool :=
  (cond ((((List.length p0) : Nat) : Int) != (((List.length p1) : Nat) : Int)) false
    (lpv false (st_base_Ints_0 p0 p1) (0 : Int)))
abbrev pre_base_Ints (p0 : (List Int)) (p1 : (List Int)) : List Prop := [((((((List.length p0) : Nat) : Int) != (((List.length p1) : Nat) : Int)) = false) → (OkL (st_base_Ints_0 p0 p1) (sp_base_Ints_0 p0 p1) (0 : Int)))]
set_option maxHeartbeats 4000000 in
theorem d_base_Ints (p0 : (List Int)) (p1 : (List Int)) (K : Bool → Prop) (hp : ∀ p ∈ pre_base_Ints p0 p1, p) (h : K (s_base_Ints p0 p1)) : w_base_Ints p0 p1 K := by
  unfold w_base_Ints
  unfold s_base_Ints at h
  obtain ⟨hp0, _⟩ := conj_of hp
  exact (br' h (fun e0 h => h)
    (fun e0 h => (loop_gen (hp0 e0) h (fun y1 k1 hp h => by
  unfold st_base_Ints_0 at h; obtain ⟨hp0, hp1, hp2, _⟩ := conj_of hp
  exact (br' h (fun e2 h => ⟨(hp0 e2), ⟨(hp1 e2), ⟨(hp0 e2), ⟨(hp2 e2), (br' h (fun e3 h => h)
    (fun e3 h => h))⟩⟩⟩⟩)
    (fun e2 h => h))))))
theorem l_base_Ints_0 (p0 p1 : List Int) (hl : lenOk p0) (he : p0.length = p1.length) : OkL (st_base_Ints_0 p0 p1) (sp_base_Ints_0 p0 p1) 0 ∧ lpv false (st_base_Ints_0 p0 p1) 0 = v_scan (fun i x => cond (!((x == (p1.getD i.toNat 0)))) (some false) none) true 0 p0 := by
  refine scan_is p0 0 (fun i x => cond (!((x == (p1.getD i.toNat 0)))) (some false) none) true hl ?_ ?_
  · refine ⟨by simp only [sp_base_Ints_0, List.forall_mem_cons, decide_eq_true_eq]; simp, by simp [st_base_Ints_0]⟩
  · intro j hj
    have hj' : (j : Int) < p0.length := by omega
    refine ⟨by simp only [sp_base_Ints_0, List.forall_mem_cons, decide_eq_true_eq, Int.toNat_natCast]; simp <;> omega, ?_⟩
    simp only [st_base_Ints_0, hj', decide_true, Int.toNat_natCast, cond_true, wrap_nat (show (j : Int) ≤ 9223372036854775806 by unfold lenOk at hl; omega)]
    generalize p0.getD j 0 = x
    generalize p1.getD j 0 = z
    simp only [bne]
    cases (x == z) <;> rfl
abbrev t_base_Ints (p0 p1 : List Int) : Bool := decide (p0 = p1)
abbrev qre_base_Ints (p0 p1 : List Int) : List Prop := [lenOk p0]
theorem pp_base_Ints (p0 p1 : List Int) (hq : ∀ p ∈ qre_base_Ints p0 p1, p) : ∀ p ∈ pre_base_Ints p0 p1, p := by
  simp only [pre_base_Ints, List.forall_mem_cons]
  refine ⟨fun h => (l_base_Ints_0 p0 p1 (conj_of hq).1 ?_).1, by simp⟩
  have h' : (p0.length : Int) = p1.length := by simpa using h
  omega
theorem tt_base_Ints (p0 p1 : List Int) (hq : ∀ p ∈ qre_base_Ints p0 p1, p) : s_base_Ints p0 p1 = t_base_Ints p0 p1 := by
  unfold s_base_Ints t_base_Ints
  by_cases h : p0.length = p1.length
  · rw [show ((p0.length : Int) != (p1.length : Int)) = false by simp [h]]
    refine (l_base_Ints_0 p0 p1 (conj_of hq).1 h).2.trans ?_
    exact v_scan_eq 0 (fun x y => (x == y)) (fun x y => by by_cases h : x = y <;> simp [h]) p0 p1 h
  · rw [show ((p0.length : Int) != (p1.length : Int)) = true by simp; omega]
    have : p0 ≠ p1 := fun e => h (congrArg List.length e)
    simp [this]

abbrev con_base_Ints : Con := ⟨P_base_Ints, R_base_Ints, fun x => qre_base_Ints x.1 x.2, fun x => t_base_Ints x.1 x.2⟩
theorem ok_base_Ints : ConOk Tryd.prog 22 con_base_Ints := ⟨k_base_Ints, fun x hx => ret_tf (ps := P_base_Ints) (rs := R_base_Ints) (x := x) (y := t_base_Ints x.1 x.2) e_base_Ints hC_base_Ints (tf_of (w_base_Ints_eq x.1 x.2 (fun z => z = t_base_Ints x.1 x.2)) (d_base_Ints x.1 x.2 (fun z => z = t_base_Ints x.1 x.2) (pp_base_Ints x.1 x.2 hx) (tt_base_Ints x.1 x.2 hx)))⟩
/- ref05_ReducedErr -/
def C_ref05_ReducedErr : Cons := [(60, [], con_base_Within)]
theorem hC_ref05_ReducedErr : ConsOk Tryd.prog C_ref05_ReducedErr := ConsOk.cons ok_base_Within <| ConsOk.nil
def w_ref05_ReducedErr (p0 : Int) (p1 : Int) (p2 : Int) (K : Int → Prop) : Prop :=
  ((((!(s_base_Within p0 (-1000000 : Int) (1000000 : Int))) = false) →
  ((!(s_base_Within p0 (-1000000 : Int) (1000000 : Int))) = (!(s_base_Within p0 (-1000000 : Int) (1000000 : Int))))) ∧
  ((((!(s_base_Within p0 (-1000000 : Int) (1000000 : Int))) = false) →
  ((!(s_base_Within p0 (-1000000 : Int) (1000000 : Int))) = (!(s_base_Within p0 (-1000000 : Int) (1000000 : Int))))) ∧
  (((!(s_base_Within p0 (-1000000 : Int) (1000000 : Int))) = (!(s_base_Within p0 (-1000000 : Int) (1000000 : Int)))) ∧
  ((((cond (!(s_base_Within p0 (-1000000 : Int) (1000000 : Int))) true (!(s_base_Within p1 (-10000 : Int) (10000 : Int)))) = false) →
  ((cond (!(s_base_Within p0 (-1000000 : Int) (1000000 : Int))) true (!(s_base_Within p1 (-10000 : Int) (10000 : Int)))) = (cond (!(s_base_Within p0 (-1000000 : Int) (1000000 : Int))) true (!(s_base_Within p1 (-10000 : Int) (10000 : Int)))))) ∧
  ((((cond (!(s_base_Within p0 (-1000000 : Int) (1000000 : Int))) true (!(s_base_Within p1 (-10000 : Int) (10000 : Int)))) = false) →
  ((cond (!(s_base_Within p0 (-1000000 : Int) (1000000 : Int))) true (!(s_base_Within p1 (-10000 : Int) (10000 : Int)))) = (cond (!(s_base_Within p0 (-1000000 : Int) (1000000 : Int))) true (!(s_base_Within p1 (-10000 : Int) (10000 : Int)))))) ∧
  (((cond (!(s_base_Within p0 (-1000000 : Int) (1000000 : Int))) true (!(s_base_Within p1 (-10000 : Int) (10000 : Int)))) = (cond (!(s_base_Within p0 (-1000000 : Int) (1000000 : Int))) true (!(s_base_Within p1 (-10000 : Int) (10000 : Int))))) ∧
  ((((cond (cond (!(s_base_Within p0 (-1000000 : Int) (1000000 : Int))) true (!(s_base_Within p1 (-10000 : Int) (10000 : Int)))) true (!(s_base_Within p2 (0 : Int) (1000 : Int)))) = true) →
  (K (2 : Int))) ∧
  (((cond (cond (!(s_base_Within p0 (-1000000 : Int) (1000000 : Int))) true (!(s_base_Within p1 (-10000 : Int) (10000 : Int)))) true (!(s_base_Within p2 (0 : Int) (1000 : Int)))) = false) →
  (K (0 : Int))))))))))
set_option maxHeartbeats 4000000 in
theorem w_ref05_ReducedErr_eq (p0 : Int) (p1 : Int) (p2 : Int) (K : Int → Prop) : tfn F_ref05_ReducedErr A_ref05_ReducedErr C_ref05_ReducedErr P_ref05_ReducedErr R_ref05_ReducedErr (p0, p1, p2) K = w_ref05_ReducedErr p0 p1 p2 K := by kernel_rfl
def s_ref05_ReducedErr (p0 : Int) (p1 : Int) (p2 : Int) : Int :=
  (cond (cond (cond (!(s_base_Within p0 (-1000000 : Int) (1000000 : Int))) true (!(s_base_Within p1 (-10000 : Int) (10000 : Int)))) true (!(s_base_Within p2 (0 : Int) (1000 : Int)))) (2 : Int)
    (0 : Int))
abbrev pre_ref05_ReducedErr (p0 : Int) (p1 : Int) (p2 : Int) : List Prop := []
set_option maxHeartbeats 4000000 in
theorem d_ref05_ReducedErr (p0 : Int) (p1 : Int) (p2 : Int) (K : Int → Prop) (hp : ∀ p ∈ pre_ref05_ReducedErr p0 p1 p2, p) (h : K (s_ref05_ReducedErr p0 p1 p2)) : w_ref05_ReducedErr p0 p1 p2 K := by
  unfold w_ref05_ReducedErr
  unfold s_ref05_ReducedErr at h
  exact ⟨(fun _ => rfl), ⟨(fun _ => rfl), ⟨rfl, ⟨(fun _ => rfl), ⟨(fun _ => rfl), ⟨rfl, (br' h (fun e0 h => h)
    (fun e0 h => h))⟩⟩⟩⟩⟩⟩
abbrev con_ref05_ReducedErr : Con := ⟨P_ref05_ReducedErr, R_ref05_ReducedErr, fun x => pre_ref05_ReducedErr x.1 x.2.1 x.2.2, fun x => s_ref05_ReducedErr x.1 x.2.1 x.2.2⟩
theorem ok_ref05_ReducedErr : ConOk Tryd.prog 23 con_ref05_ReducedErr := ⟨k_ref05_ReducedErr, fun x hx => ret_tf (ps := P_ref05_ReducedErr) (rs := R_ref05_ReducedErr) (x := x) (y := s_ref05_ReducedErr x.1 x.2.1 x.2.2) e_ref05_ReducedErr hC_ref05_ReducedErr (tf_of (w_ref05_ReducedErr_eq x.1 x.2.1 x.2.2 (fun z => z = s_ref05_ReducedErr x.1 x.2.1 x.2.2)) (d_ref05_ReducedErr x.1 x.2.1 x.2.2 (fun z => z = s_ref05_ReducedErr x.1 x.2.1 x.2.2) hx rfl))⟩
/- base_Gcd -/
def C_base_Gcd : Cons := [(65, [], con_base_Size)]
theorem hC_base_Gcd : ConsOk Tryd.prog C_base_Gcd := ConsOk.cons ok_base_Size <| ConsOk.nil
def w_base_Gcd (p0 : Int) (p1 : Int) (K : Int → Prop) : Prop :=
  (∃ n0, (loopP (fun (y1 : (Int × Int)) k2 =>
    ((((y1.1 != (0 : Int)) = true) →
    ((y1.1 ≠ (0 : Int)) ∧
      (k2 ((Int.tmod y1.2 y1.1), y1.1)))) ∧
    (((y1.1 != (0 : Int)) = false) →
    (K (s_base_Size y1.2))))) n0 (p1, p0)))
set_option maxHeartbeats 4000000 in
theorem w_base_Gcd_eq (p0 : Int) (p1 : Int) (K : Int → Prop) : tfn F_base_Gcd A_base_Gcd C_base_Gcd P_base_Gcd R_base_Gcd (p0, p1) K = w_base_Gcd p0 p1 K := by kernel_rfl
def st_base_Gcd_0 (p0 : Int) (p1 : Int) (y0 : (Int × Int)) : (Int × Int) ⊕ Int :=
  (cond (y0.1 != (0 : Int)) (Sum.inl ((Int.tmod y0.2 y0.1), y0.1))
    (Sum.inr (s_base_Size y0.2)))
abbrev sp_base_Gcd_0 (p0 : Int) (p1 : Int) (y0 : (Int × Int)) : List Prop := [(((y0.1 != (0 : Int)) = true) → (y0.1 ≠ (0 : Int)))]
def s_base_Gcd (p0 : Int) (p1 : Int) : Int :=
  (lpv (0 : Int) (st_base_Gcd_0 p0 p1) (p1, p0))
abbrev pre_base_Gcd (p0 : Int) (p1 : Int) : List Prop := [(OkL (st_base_Gcd_0 p0 p1) (sp_base_Gcd_0 p0 p1) (p1, p0))]
set_option maxHeartbeats 4000000 in
theorem d_base_Gcd (p0 : Int) (p1 : Int) (K : Int → Prop) (hp : ∀ p ∈ pre_base_Gcd p0 p1, p) (h : K (s_base_Gcd p0 p1)) : w_base_Gcd p0 p1 K := by
  unfold w_base_Gcd
  unfold s_base_Gcd at h
  obtain ⟨hp0, _⟩ := conj_of hp
  exact (loop_gen (hp0) h (fun y0 k0 hp h => by
  unfold st_base_Gcd_0 at h; obtain ⟨hp0, _⟩ := conj_of hp
  exact (br' h (fun e1 h => ⟨(hp0 e1), h⟩)
    (fun e1 h => h))))
theorem l_base_Gcd_0 (p0 p1 : Int) (h0 : v_fit p0) (h1 : v_fit p1) : OkL (st_base_Gcd_0 p0 p1) (sp_base_Gcd_0 p0 p1) (p1, p0) ∧ lpv 0 (st_base_Gcd_0 p0 p1) (p1, p0) = v_gcd p0 p1 := by
  refine gcd_is (fun y => rfl) (fun y => ?_) h0 h1
  simp only [sp_base_Gcd_0, List.forall_mem_cons]
  simp
abbrev t_base_Gcd (p0 p1 : Int) : Int := v_gcd p0 p1
abbrev qre_base_Gcd (p0 p1 : Int) : List Prop := [v_fit p0 ∧ v_fit p1]
theorem pp_base_Gcd (p0 p1 : Int) (hq : ∀ p ∈ qre_base_Gcd p0 p1, p) : ∀ p ∈ pre_base_Gcd p0 p1, p := by
  simp only [pre_base_Gcd, List.forall_mem_cons]
  have h := (conj_of hq).1
  exact ⟨(l_base_Gcd_0 p0 p1 h.1 h.2).1, by simp⟩
theorem tt_base_Gcd (p0 p1 : Int) (hq : ∀ p ∈ qre_base_Gcd p0 p1, p) : s_base_Gcd p0 p1 = t_base_Gcd p0 p1 := by
  have h := (conj_of hq).1
  exact (l_base_Gcd_0 p0 p1 h.1 h.2).2

abbrev con_base_Gcd : Con := ⟨P_base_Gcd, R_base_Gcd, fun x => qre_base_Gcd x.1 x.2, fun x => t_base_Gcd x.1 x.2⟩
theorem ok_base_Gcd : ConOk Tryd.prog 115 con_base_Gcd := ⟨k_base_Gcd, fun x hx => ret_tf (ps := P_base_Gcd) (rs := R_base_Gcd) (x := x) (y := t_base_Gcd x.1 x.2) e_base_Gcd hC_base_Gcd (tf_of (w_base_Gcd_eq x.1 x.2 (fun z => z = t_base_Gcd x.1 x.2)) (d_base_Gcd x.1 x.2 (fun z => z = t_base_Gcd x.1 x.2) (pp_base_Gcd x.1 x.2 hx) (tt_base_Gcd x.1 x.2 hx)))⟩
/- base_Lowest -/
def C_base_Lowest : Cons := [(115, [], con_base_Gcd)]
theorem hC_base_Lowest : ConsOk Tryd.prog C_base_Lowest := ConsOk.cons ok_base_Gcd <| ConsOk.nil
def w_base_Lowest (p0 : Int) (p1 : Int) (K : (Int × Int) → Prop) : Prop :=
  (((v_fit p0) ∧
  (v_fit p1)) ∧
  ((((decide (p1 < (0 : Int))) = true) →
  (((Go.IntKind.wrap .i64 ((0 : Int) - (v_gcd p0 p1))) ≠ (0 : Int)) ∧
    (((Go.IntKind.wrap .i64 ((0 : Int) - (v_gcd p0 p1))) ≠ (0 : Int)) ∧
    (K ((Go.IntKind.wrap .i64 (Int.tdiv p0 (Go.IntKind.wrap .i64 ((0 : Int) - (v_gcd p0 p1))))), (Go.IntKind.wrap .i64 (Int.tdiv p1 (Go.IntKind.wrap .i64 ((0 : Int) - (v_gcd p0 p1)))))))))) ∧
  (((decide (p1 < (0 : Int))) = false) →
  (((v_gcd p0 p1) ≠ (0 : Int)) ∧
    (((v_gcd p0 p1) ≠ (0 : Int)) ∧
    (K ((Go.IntKind.wrap .i64 (Int.tdiv p0 (v_gcd p0 p1))), (Go.IntKind.wrap .i64 (Int.tdiv p1 (v_gcd p0 p1))))))))))
set_option maxHeartbeats 4000000 in
theorem w_base_Lowest_eq (p0 : Int) (p1 : Int) (K : (Int × Int) → Prop) : tfn F_base_Lowest A_base_Lowest C_base_Lowest P_base_Lowest R_base_Lowest (p0, p1) K = w_base_Lowest p0 p1 K := by kernel_rfl
def s_base_Lowest (p0 : Int) (p1 : Int) : (Int × Int) :=
  (cond (decide (p1 < (0 : Int))) ((Go.IntKind.wrap .i64 (Int.tdiv p0 (Go.IntKind.wrap .i64 ((0 : Int) - (v_gcd p0 p1))))), (Go.IntKind.wrap .i64 (Int.tdiv p1 (Go.IntKind.wrap .i64 ((0 : Int) - (v_gcd p0 p1))))))
    ((Go.IntKind.wrap .i64 (Int.tdiv p0 (v_gcd p0 p1))), (Go.IntKind.wrap .i64 (Int.tdiv p1 (v_gcd p0 p1)))))
abbrev pre_base_Lowest (p0 : Int) (p1 : Int) : List Prop := [((v_fit p0) ∧ (v_fit p1)),
    (((decide (p1 < (0 : Int))) = true) → ((Go.IntKind.wrap .i64 ((0 : Int) - (v_gcd p0 p1))) ≠ (0 : Int))),
    (((decide (p1 < (0 : Int))) = false) → ((v_gcd p0 p1) ≠ (0 : Int)))]
set_option maxHeartbeats 4000000 in
theorem d_base_Lowest (p0 : Int) (p1 : Int) (K : (Int × Int) → Prop) (hp : ∀ p ∈ pre_base_Lowest p0 p1, p) (h : K (s_base_Lowest p0 p1)) : w_base_Lowest p0 p1 K := by
  unfold w_base_Lowest
  unfold s_base_Lowest at h
  obtain ⟨hp0, hp1, hp2, _⟩ := conj_of hp
  exact ⟨(hp0), (br' h (fun e0 h => ⟨(hp1 e0), ⟨(hp1 e0), h⟩⟩)
    (fun e0 h => ⟨(hp2 e0), ⟨(hp2 e0), h⟩⟩))⟩
abbrev t_base_Lowest (p0 p1 : Int) : Int × Int := v_low (p0, p1)
abbrev qre_base_Lowest (p0 p1 : Int) : List Prop := [v_fit p0, 0 < p1, v_fit p1]
theorem pp_base_Lowest (p0 p1 : Int) (hq : ∀ p ∈ qre_base_Lowest p0 p1, p) : ∀ p ∈ pre_base_Lowest p0 p1, p := by
  obtain ⟨h0, h1, h2, _⟩ := conj_of hq
  simp only [pre_base_Lowest, List.forall_mem_cons]
  have := v_gcd_pos (a := p0) (b := p1) (by omega)
  exact ⟨⟨h0, h2⟩, fun h => by have := of_decide_eq_true h; omega, fun _ => by omega, by simp⟩
theorem tt_base_Lowest (p0 p1 : Int) (hq : ∀ p ∈ qre_base_Lowest p0 p1, p) : s_base_Lowest p0 p1 = t_base_Lowest p0 p1 := by
  obtain ⟨h0, h1, h2, _⟩ := conj_of hq
  obtain ⟨e1, e2, _⟩ := tx_low h0 h1 h2
  unfold s_base_Lowest t_base_Lowest
  rw [e1, e2, decide_eq_false (show ¬ p1 < 0 by omega)]; rfl

abbrev con_base_Lowest : Con := ⟨P_base_Lowest, R_base_Lowest, fun x => qre_base_Lowest x.1 x.2, fun x => t_base_Lowest x.1 x.2⟩
theorem ok_base_Lowest : ConOk Tryd.prog 97 con_base_Lowest := ⟨k_base_Lowest, fun x hx => ret_tf (ps := P_base_Lowest) (rs := R_base_Lowest) (x := x) (y := t_base_Lowest x.1 x.2) e_base_Lowest hC_base_Lowest (tf_of (w_base_Lowest_eq x.1 x.2 (fun z => z = t_base_Lowest x.1 x.2)) (d_base_Lowest x.1 x.2 (fun z => z = t_base_Lowest x.1 x.2) (pp_base_Lowest x.1 x.2 hx) (tt_base_Lowest x.1 x.2 hx)))⟩
/- base_IsSmall -/
def C_base_IsSmall : Cons := [(60, [], con_base_Within)]
theorem hC_base_IsSmall : ConsOk Tryd.prog C_base_IsSmall := ConsOk.cons ok_base_Within <| ConsOk.nil
def w_base_IsSmall (p0 : (Int × Int)) (K : Bool → Prop) : Prop :=
  ((((s_base_Within p0.1 (-1000000000 : Int) (1000000000 : Int)) = true) →
  ((s_base_Within p0.1 (-1000000000 : Int) (1000000000 : Int)) = (s_base_Within p0.1 (-1000000000 : Int) (1000000000 : Int)))) ∧
  ((((s_base_Within p0.1 (-1000000000 : Int) (1000000000 : Int)) = true) →
  ((s_base_Within p0.1 (-1000000000 : Int) (1000000000 : Int)) = (s_base_Within p0.1 (-1000000000 : Int) (1000000000 : Int)))) ∧
  (((s_base_Within p0.1 (-1000000000 : Int) (1000000000 : Int)) = (s_base_Within p0.1 (-1000000000 : Int) (1000000000 : Int))) ∧
  (K (cond (s_base_Within p0.1 (-1000000000 : Int) (1000000000 : Int)) (s_base_Within p0.2 (1 : Int) (1000000000 : Int)) false)))))
set_option maxHeartbeats 4000000 in
theorem w_base_IsSmall_eq (p0 : (Int × Int)) (K : Bool → Prop) : tfn F_base_IsSmall A_base_IsSmall C_base_IsSmall P_base_IsSmall R_base_IsSmall p0 K = w_base_IsSmall p0 K := by kernel_rfl
def s_base_IsSmall (p0 : (Int × Int)) : Bool :=
  (cond (s_base_Within p0.1 (-1000000000 : Int) (1000000000 : Int)) (s_base_Within p0.2 (1 : Int) (1000000000 : Int)) false)
abbrev pre_base_IsSmall (p0 : (Int × Int)) : List Prop := []
set_option maxHeartbeats 4000000 in
theorem d_base_IsSmall (p0 : (Int × Int)) (K : Bool → Prop) (hp : ∀ p ∈ pre_base_IsSmall p0, p) (h : K (s_base_IsSmall p0)) : w_base_IsSmall p0 K := by
  unfold w_base_IsSmall
  unfold s_base_IsSmall at h
  exact ⟨(fun _ => rfl), ⟨(fun _ => rfl), ⟨rfl, h⟩⟩⟩
abbrev con_base_IsSmall : Con := ⟨P_base_IsSmall, R_base_IsSmall, fun x => pre_base_IsSmall x, fun x => s_base_IsSmall x⟩
theorem ok_base_IsSmall : ConOk Tryd.prog 58 con_base_IsSmall := ⟨k_base_IsSmall, fun x hx => ret_tf (ps := P_base_IsSmall) (rs := R_base_IsSmall) (x := x) (y := s_base_IsSmall x) e_base_IsSmall hC_base_IsSmall (tf_of (w_base_IsSmall_eq x (fun z => z = s_base_IsSmall x)) (d_base_IsSmall x (fun z => z = s_base_IsSmall x) hx rfl))⟩
/- ref05_Reduced -/
def C_ref05_Reduced : Cons := [(97, [], con_base_Lowest), (58, [], con_base_IsSmall)]
theorem hC_ref05_Reduced : ConsOk Tryd.prog C_ref05_Reduced := ConsOk.cons ok_base_Lowest <| ConsOk.cons ok_base_IsSmall <| ConsOk.nil
def w_ref05_Reduced (p0 : Int) (p1 : Int) (p2 : Int) (K : ((Int × Int) × Bool) → Prop) : Prop :=
  ((v_fit (Go.IntKind.wrap .i64 ((Go.IntKind.wrap .i64 ((Go.IntKind.wrap .i64 ((100000 : Int) * p0)) + (Go.IntKind.wrap .i64 ((3086000 : Int) * p1)))) - (Go.IntKind.wrap .i64 ((Go.IntKind.wrap .i64 ((4193 : Int) * p2)) * p1))))) ∧
  (((0 : Int) < (100000 : Int)) ∧
  ((v_fit (100000 : Int)) ∧
  ((((!(s_base_IsSmall (v_low ((Go.IntKind.wrap .i64 ((Go.IntKind.wrap .i64 ((Go.IntKind.wrap .i64 ((100000 : Int) * p0)) + (Go.IntKind.wrap .i64 ((3086000 : Int) * p1)))) - (Go.IntKind.wrap .i64 ((Go.IntKind.wrap .i64 ((4193 : Int) * p2)) * p1)))), (100000 : Int))))) = true) →
  (K (((0 : Int), (0 : Int)), false))) ∧
  (((!(s_base_IsSmall (v_low ((Go.IntKind.wrap .i64 ((Go.IntKind.wrap .i64 ((Go.IntKind.wrap .i64 ((100000 : Int) * p0)) + (Go.IntKind.wrap .i64 ((3086000 : Int) * p1)))) - (Go.IntKind.wrap .i64 ((Go.IntKind.wrap .i64 ((4193 : Int) * p2)) * p1)))), (100000 : Int))))) = false) →
  (K ((v_low ((Go.IntKind.wrap .i64 ((Go.IntKind.wrap .i64 ((Go.IntKind.wrap .i64 ((100000 : Int) * p0)) + (Go.IntKind.wrap .i64 ((3086000 : Int) * p1)))) - (Go.IntKind.wrap .i64 ((Go.IntKind.wrap .i64 ((4193 : Int) * p2)) * p1)))), (100000 : Int))), true)))))))
set_option maxHeartbeats 4000000 in
theorem w_ref05_Reduced_eq (p0 : Int) (p1 : Int) (p2 : Int) (K : ((Int × Int) × Bool) → Prop) : tfn F_ref05_Reduced A_ref05_Reduced C_ref05_Reduced P_ref05_Reduced R_ref05_Reduced (p0, p1, p2) K = w_ref05_Reduced p0 p1 p2 K := by kernel_rfl
def s_ref05_Reduced (p0 : Int) (p1 : Int) (p2 : Int) : ((Int × Int) × Bool) :=
  (cond (!(s_base_IsSmall (v_low ((Go.IntKind.wrap .i64 ((Go.IntKind.wrap .i64 ((Go.IntKind.wrap .i64 ((100000 : Int) * p0)) + (Go.IntKind.wrap .i64 ((3086000 : Int) * p1)))) - (Go.IntKind.wrap .i64 ((Go.IntKind.wrap .i64 ((4193 : Int) * p2)) * p1)))), (100000 : Int))))) (((0 : Int), (0 : Int)), false)
    ((v_low ((Go.IntKind.wrap .i64 ((Go.IntKind.wrap .i64 ((Go.IntKind.wrap .i64 ((100000 : Int) * p0)) + (Go.IntKind.wrap .i64 ((3086000 : Int) * p1)))) - (Go.IntKind.wrap .i64 ((Go.IntKind.wrap .i64 ((4193 : Int) * p2)) * p1)))), (100000 : Int))), true))
abbrev pre_ref05_Reduced (p0 : Int) (p1 : Int) (p2 : Int) : List Prop := [(v_fit (Go.IntKind.wrap .i64 ((Go.IntKind.wrap .i64 ((Go.IntKind.wrap .i64 ((100000 : Int) * p0)) + (Go.IntKind.wrap .i64 ((3086000 : Int) * p1)))) - (Go.IntKind.wrap .i64 ((Go.IntKind.wrap .i64 ((4193 : Int) * p2)) * p1))))),
    (v_fit (100000 : Int))]
set_option maxHeartbeats 4000000 in
theorem d_ref05_Reduced (p0 : Int) (p1 : Int) (p2 : Int) (K : ((Int × Int) × Bool) → Prop) (hp : ∀ p ∈ pre_ref05_Reduced p0 p1 p2, p) (h : K (s_ref05_Reduced p0 p1 p2)) : w_ref05_Reduced p0 p1 p2 K := by
  unfold w_ref05_Reduced
  unfold s_ref05_Reduced at h
  obtain ⟨hp0, hp1, _⟩ := conj_of hp
  exact ⟨(hp0), ⟨(of_decide_eq_true rfl), ⟨(hp1), (br' h (fun e0 h => h)
    (fun e0 h => h))⟩⟩⟩
abbrev t_ref05_Reduced (p0 p1 p2 : Int) : (Int × Int) × Bool := cond (v_small (v_low (v_redn p0 p1 p2, 100000))) (v_low (v_redn p0 p1 p2, 100000), true) ((0, 0), false)
abbrev qre_ref05_Reduced (p0 p1 p2 : Int) : List Prop := [v_redok p0 p1 p2 = true]
theorem pp_ref05_Reduced (p0 p1 p2 : Int) (hq : ∀ p ∈ qre_ref05_Reduced p0 p1 p2, p) : ∀ p ∈ pre_ref05_Reduced p0 p1 p2, p := by
  have h := (conj_of hq).1
  simp only [pre_ref05_Reduced, List.forall_mem_cons, (tx_redn h).1]
  exact ⟨(tx_redn h).2, by decide, by simp⟩
theorem tt_ref05_Reduced (p0 p1 p2 : Int) (hq : ∀ p ∈ qre_ref05_Reduced p0 p1 p2, p) : s_ref05_Reduced p0 p1 p2 = t_ref05_Reduced p0 p1 p2 := by
  have h := (conj_of hq).1
  obtain ⟨e, f⟩ := tx_redn h
  have hp := (tx_low f (show (0 : Int) < 100000 by decide) (by decide)).2.2.2.1
  unfold s_ref05_Reduced t_ref05_Reduced s_base_IsSmall v_small
  rw [e, (tx_small hp).1, (tx_small hp).2]
  cases cond (s_gravity_isSized (v_low (v_redn p0 p1 p2, 100000)).1 1000000000) (decide ((v_low (v_redn p0 p1 p2, 100000)).2 ≤ 1000000000)) false <;> rfl

abbrev con_ref05_Reduced : Con := ⟨P_ref05_Reduced, R_ref05_Reduced, fun x => qre_ref05_Reduced x.1 x.2.1 x.2.2, fun x => t_ref05_Reduced x.1 x.2.1 x.2.2⟩
theorem ok_ref05_Reduced : ConOk Tryd.prog 24 con_ref05_Reduced := ⟨k_ref05_Reduced, fun x hx => ret_tf (ps := P_ref05_Reduced) (rs := R_ref05_Reduced) (x := x) (y := t_ref05_Reduced x.1 x.2.1 x.2.2) e_ref05_Reduced hC_ref05_Reduced (tf_of (w_ref05_Reduced_eq x.1 x.2.1 x.2.2 (fun z => z = t_ref05_Reduced x.1 x.2.1 x.2.2)) (d_ref05_Reduced x.1 x.2.1 x.2.2 (fun z => z = t_ref05_Reduced x.1 x.2.1 x.2.2) (pp_ref05_Reduced x.1 x.2.1 x.2.2 hx) (tt_ref05_Reduced x.1 x.2.1 x.2.2 hx)))⟩
end Go.Proofs.YtcecdmdnfmgnfaaDoor
