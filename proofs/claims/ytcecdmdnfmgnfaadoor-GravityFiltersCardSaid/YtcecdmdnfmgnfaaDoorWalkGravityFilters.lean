/- What the functions that GravityFilters reaches compute: contracts, each function once. No condition. -/
import Derived.Test.YtcecdmdnfmgnfaaDoorLayB
import Derived.Test.YtcecdmdnfmgnfaaDoorAwGbGravityFilters
import Derived.KernelRfl
namespace Go.Proofs.YtcecdmdnfmgnfaaDoor
open Go Go.Mx
set_option maxRecDepth 100000
/-- Ranges, and ties: from, to, difference. -/
abbrev GR : Type := Int × Int
abbrev GT : Type := Int × Int × Int × Int
/- law05_light -/
def C_law05_light : Cons := []
theorem hC_law05_light : ConsOk Tryd.prog C_law05_light := ConsOk.nil
def w_law05_light (p0 : (List Int)) (K : Bool → Prop) : Prop :=
  (K (decide ((((List.length p0) : Nat) : Int) ≤ (11 : Int))))
set_option maxHeartbeats 4000000 in
theorem w_law05_light_eq (p0 : (List Int)) (K : Bool → Prop) : tfn F_law05_light A_law05_light C_law05_light P_law05_light R_law05_light p0 K = w_law05_light p0 K := by kernel_rfl
def s_law05_light (p0 : (List Int)) : Bool :=
  (decide ((((List.length p0) : Nat) : Int) ≤ (11 : Int)))
abbrev pre_law05_light (p0 : (List Int)) : List Prop := []
set_option maxHeartbeats 4000000 in
theorem d_law05_light (p0 : (List Int)) (K : Bool → Prop) (hp : ∀ p ∈ pre_law05_light p0, p) (h : K (s_law05_light p0)) : w_law05_light p0 K := by
  unfold w_law05_light
  unfold s_law05_light at h
  exact h
abbrev con_law05_light : Con := ⟨P_law05_light, R_law05_light, fun x => pre_law05_light x, fun x => s_law05_light x⟩
theorem ok_law05_light : ConOk Tryd.prog 16 con_law05_light := ⟨k_law05_light, fun x hx => ret_tf (ps := P_law05_light) (rs := R_law05_light) (x := x) (y := s_law05_light x) e_law05_light hC_law05_light (tf_of (w_law05_light_eq x (fun z => z = s_law05_light x)) (d_law05_light x (fun z => z = s_law05_light x) hx rfl))⟩
/- law05_few -/
def C_law05_few : Cons := []
theorem hC_law05_few : ConsOk Tryd.prog C_law05_few := ConsOk.nil
def w_law05_few (p0 : (List (Int × Int))) (K : Bool → Prop) : Prop :=
  (K (decide ((((List.length p0) : Nat) : Int) ≤ (66 : Int))))
set_option maxHeartbeats 4000000 in
theorem w_law05_few_eq (p0 : (List (Int × Int))) (K : Bool → Prop) : tfn F_law05_few A_law05_few C_law05_few P_law05_few R_law05_few p0 K = w_law05_few p0 K := by kernel_rfl
def s_law05_few (p0 : (List (Int × Int))) : Bool :=
  (decide ((((List.length p0) : Nat) : Int) ≤ (66 : Int)))
abbrev pre_law05_few (p0 : (List (Int × Int))) : List Prop := []
set_option maxHeartbeats 4000000 in
theorem d_law05_few (p0 : (List (Int × Int))) (K : Bool → Prop) (hp : ∀ p ∈ pre_law05_few p0, p) (h : K (s_law05_few p0)) : w_law05_few p0 K := by
  unfold w_law05_few
  unfold s_law05_few at h
  exact h
abbrev con_law05_few : Con := ⟨P_law05_few, R_law05_few, fun x => pre_law05_few x, fun x => s_law05_few x⟩
theorem ok_law05_few : ConOk Tryd.prog 25 con_law05_few := ⟨k_law05_few, fun x hx => ret_tf (ps := P_law05_few) (rs := R_law05_few) (x := x) (y := s_law05_few x) e_law05_few hC_law05_few (tf_of (w_law05_few_eq x (fun z => z = s_law05_few x)) (d_law05_few x (fun z => z = s_law05_few x) hx rfl))⟩
/- base_CopyInts -/
def C_base_CopyInts : Cons := []
theorem hC_base_CopyInts : ConsOk Tryd.prog C_base_CopyInts := ConsOk.nil
def w_base_CopyInts (p0 : (List Int)) (K : (List Int) → Prop) : Prop :=
  (((((List.length ([] : List Int)) + (List.length p0)) * 8) ≤ 140737488355328) ∧
  (K (([] : List Int) ++ p0)))
set_option maxHeartbeats 4000000 in
theorem w_base_CopyInts_eq (p0 : (List Int)) (K : (List Int) → Prop) : tfnO F_base_CopyInts A_base_CopyInts C_base_CopyInts P_base_CopyInts E_base_CopyInts p0 K = w_base_CopyInts p0 K := by kernel_rfl
def s_base_CopyInts (p0 : (List Int)) : (List Int) :=
  (([] : List Int) ++ p0)
abbrev pre_base_CopyInts (p0 : (List Int)) : List Prop := [((((List.length ([] : List Int)) + (List.length p0)) * 8) ≤ 140737488355328)]
set_option maxHeartbeats 4000000 in
theorem d_base_CopyInts (p0 : (List Int)) (K : (List Int) → Prop) (hp : ∀ p ∈ pre_base_CopyInts p0, p) (h : K (s_base_CopyInts p0)) : w_base_CopyInts p0 K := by
  unfold w_base_CopyInts
  unfold s_base_CopyInts at h
  obtain ⟨hp0, _⟩ := conj_of hp
  exact ⟨(hp0), h⟩
abbrev t_base_CopyInts (p0 : List Int) : List Int := p0
abbrev qre_base_CopyInts (p0 : List Int) : List Prop := [p0.length ≤ 1000000]
theorem pp_base_CopyInts (p0 : List Int) (hq : ∀ p ∈ qre_base_CopyInts p0, p) : ∀ p ∈ pre_base_CopyInts p0, p := by
  simp only [pre_base_CopyInts, List.forall_mem_cons]
  have := (conj_of hq).1
  exact ⟨by simp; omega, by simp⟩
theorem tt_base_CopyInts (p0 : List Int) (hq : ∀ p ∈ qre_base_CopyInts p0, p) : s_base_CopyInts p0 = t_base_CopyInts p0 := by
  rfl

abbrev con_base_CopyInts : Con := ⟨P_base_CopyInts, [.one (.sl E_base_CopyInts)], fun x => qre_base_CopyInts x, fun x => t_base_CopyInts x⟩
theorem ok_base_CopyInts : ConOOk Tryd.prog 31 con_base_CopyInts := conO_tf (e := E_base_CopyInts) (ps := P_base_CopyInts) k_base_CopyInts e_base_CopyInts hC_base_CopyInts (fun x hx => tfo_of (w_base_CopyInts_eq x (fun z => z = t_base_CopyInts x)) (d_base_CopyInts x (fun z => z = t_base_CopyInts x) (pp_base_CopyInts x hx) (tt_base_CopyInts x hx)))
/- ref05_CopyFilter -/
def C_ref05_CopyFilter : Cons := [(31, ownMark, con_base_CopyInts)]
theorem hC_ref05_CopyFilter : ConsOk Tryd.prog C_ref05_CopyFilter := ConsOk.consO ok_base_CopyInts <| ConsOk.nil
def w_ref05_CopyFilter (p0 : (List Int)) (K : (List Int) → Prop) : Prop :=
  (((List.length p0) ≤ 1000000) ∧
  (K p0))
set_option maxHeartbeats 4000000 in
theorem w_ref05_CopyFilter_eq (p0 : (List Int)) (K : (List Int) → Prop) : tfn F_ref05_CopyFilter A_ref05_CopyFilter C_ref05_CopyFilter P_ref05_CopyFilter R_ref05_CopyFilter p0 K = w_ref05_CopyFilter p0 K := by kernel_rfl
def s_ref05_CopyFilter (p0 : (List Int)) : (List Int) :=
  p0
abbrev pre_ref05_CopyFilter (p0 : (List Int)) : List Prop := [((List.length p0) ≤ 1000000)]
set_option maxHeartbeats 4000000 in
theorem d_ref05_CopyFilter (p0 : (List Int)) (K : (List Int) → Prop) (hp : ∀ p ∈ pre_ref05_CopyFilter p0, p) (h : K (s_ref05_CopyFilter p0)) : w_ref05_CopyFilter p0 K := by
  unfold w_ref05_CopyFilter
  unfold s_ref05_CopyFilter at h
  obtain ⟨hp0, _⟩ := conj_of hp
  exact ⟨(hp0), h⟩
abbrev con_ref05_CopyFilter : Con := ⟨P_ref05_CopyFilter, R_ref05_CopyFilter, fun x => pre_ref05_CopyFilter x, fun x => s_ref05_CopyFilter x⟩
theorem ok_ref05_CopyFilter : ConOk Tryd.prog 18 con_ref05_CopyFilter := ⟨k_ref05_CopyFilter, fun x hx => ret_tf (ps := P_ref05_CopyFilter) (rs := R_ref05_CopyFilter) (x := x) (y := s_ref05_CopyFilter x) e_ref05_CopyFilter hC_ref05_CopyFilter (tf_of (w_ref05_CopyFilter_eq x (fun z => z = s_ref05_CopyFilter x)) (d_ref05_CopyFilter x (fun z => z = s_ref05_CopyFilter x) hx rfl))⟩
/- gravity_within -/
def C_gravity_within : Cons := []
theorem hC_gravity_within : ConsOk Tryd.prog C_gravity_within := ConsOk.nil
def w_gravity_within (p0 : Int) (p1 : Int) (p2 : Int) (K : Bool → Prop) : Prop :=
  ((((decide (p1 ≤ p0)) = true) →
  ((decide (p1 ≤ p0)) = (decide (p1 ≤ p0)))) ∧
  ((((decide (p1 ≤ p0)) = true) →
  ((decide (p1 ≤ p0)) = (decide (p1 ≤ p0)))) ∧
  (((decide (p1 ≤ p0)) = (decide (p1 ≤ p0))) ∧
  (K (cond (decide (p1 ≤ p0)) (decide (p0 ≤ p2)) false)))))
set_option maxHeartbeats 4000000 in
theorem w_gravity_within_eq (p0 : Int) (p1 : Int) (p2 : Int) (K : Bool → Prop) : tfn F_gravity_within A_gravity_within C_gravity_within P_gravity_within R_gravity_within (p0, p1, p2) K = w_gravity_within p0 p1 p2 K := by kernel_rfl
def s_gravity_within (p0 : Int) (p1 : Int) (p2 : Int) : Bool :=
  (cond (decide (p1 ≤ p0)) (decide (p0 ≤ p2)) false)
abbrev pre_gravity_within (p0 : Int) (p1 : Int) (p2 : Int) : List Prop := []
set_option maxHeartbeats 4000000 in
theorem d_gravity_within (p0 : Int) (p1 : Int) (p2 : Int) (K : Bool → Prop) (hp : ∀ p ∈ pre_gravity_within p0 p1 p2, p) (h : K (s_gravity_within p0 p1 p2)) : w_gravity_within p0 p1 p2 K := by
  unfold w_gravity_within
  unfold s_gravity_within at h
  exact ⟨(fun _ => rfl), ⟨(fun _ => rfl), ⟨rfl, h⟩⟩⟩
abbrev con_gravity_within : Con := ⟨P_gravity_within, R_gravity_within, fun x => pre_gravity_within x.1 x.2.1 x.2.2, fun x => s_gravity_within x.1 x.2.1 x.2.2⟩
theorem ok_gravity_within : ConOk Tryd.prog 94 con_gravity_within := ⟨k_gravity_within, fun x hx => ret_tf (ps := P_gravity_within) (rs := R_gravity_within) (x := x) (y := s_gravity_within x.1 x.2.1 x.2.2) e_gravity_within hC_gravity_within (tf_of (w_gravity_within_eq x.1 x.2.1 x.2.2 (fun z => z = s_gravity_within x.1 x.2.1 x.2.2)) (d_gravity_within x.1 x.2.1 x.2.2 (fun z => z = s_gravity_within x.1 x.2.1 x.2.2) hx rfl))⟩
theorem tx_within {n lo hi : Int} : s_gravity_within n lo hi = true ↔ lo ≤ n ∧ n ≤ hi := by unfold s_gravity_within; simp
/- gravity_isSized -/
def C_gravity_isSized : Cons := [(94, [], con_gravity_within)]
theorem hC_gravity_isSized : ConsOk Tryd.prog C_gravity_isSized := ConsOk.cons ok_gravity_within <| ConsOk.nil
def w_gravity_isSized (p0 : Int) (p1 : Int) (K : Bool → Prop) : Prop :=
  (K (s_gravity_within p0 (Go.IntKind.wrap .i64 ((0 : Int) - p1)) p1))
set_option maxHeartbeats 4000000 in
theorem w_gravity_isSized_eq (p0 : Int) (p1 : Int) (K : Bool → Prop) : tfn F_gravity_isSized A_gravity_isSized C_gravity_isSized P_gravity_isSized R_gravity_isSized (p0, p1) K = w_gravity_isSized p0 p1 K := by kernel_rfl
def s_gravity_isSized (p0 : Int) (p1 : Int) : Bool :=
  (s_gravity_within p0 (Go.IntKind.wrap .i64 ((0 : Int) - p1)) p1)
abbrev pre_gravity_isSized (p0 : Int) (p1 : Int) : List Prop := []
set_option maxHeartbeats 4000000 in
theorem d_gravity_isSized (p0 : Int) (p1 : Int) (K : Bool → Prop) (hp : ∀ p ∈ pre_gravity_isSized p0 p1, p) (h : K (s_gravity_isSized p0 p1)) : w_gravity_isSized p0 p1 K := by
  unfold w_gravity_isSized
  unfold s_gravity_isSized at h
  exact h
abbrev con_gravity_isSized : Con := ⟨P_gravity_isSized, R_gravity_isSized, fun x => pre_gravity_isSized x.1 x.2, fun x => s_gravity_isSized x.1 x.2⟩
theorem ok_gravity_isSized : ConOk Tryd.prog 93 con_gravity_isSized := ⟨k_gravity_isSized, fun x hx => ret_tf (ps := P_gravity_isSized) (rs := R_gravity_isSized) (x := x) (y := s_gravity_isSized x.1 x.2) e_gravity_isSized hC_gravity_isSized (tf_of (w_gravity_isSized_eq x.1 x.2 (fun z => z = s_gravity_isSized x.1 x.2)) (d_gravity_isSized x.1 x.2 (fun z => z = s_gravity_isSized x.1 x.2) hx rfl))⟩
/- gravity_CheckFilter_1 -/
def C_gravity_CheckFilter_1 : Cons := [(93, [], con_gravity_isSized)]
theorem hC_gravity_CheckFilter_1 : ConsOk Tryd.prog C_gravity_CheckFilter_1 := ConsOk.cons ok_gravity_isSized <| ConsOk.nil
def w_gravity_CheckFilter_1 (p0 : Int) (K : Bool → Prop) : Prop :=
  (K (!(s_gravity_isSized p0 (100000 : Int))))
set_option maxHeartbeats 4000000 in
theorem w_gravity_CheckFilter_1_eq (p0 : Int) (K : Bool → Prop) : tfn F_gravity_CheckFilter_1 A_gravity_CheckFilter_1 C_gravity_CheckFilter_1 P_gravity_CheckFilter_1 R_gravity_CheckFilter_1 p0 K = w_gravity_CheckFilter_1 p0 K := by kernel_rfl
def s_gravity_CheckFilter_1 (p0 : Int) : Bool :=
  (!(s_gravity_isSized p0 (100000 : Int)))
abbrev pre_gravity_CheckFilter_1 (p0 : Int) : List Prop := []
set_option maxHeartbeats 4000000 in
theorem d_gravity_CheckFilter_1 (p0 : Int) (K : Bool → Prop) (hp : ∀ p ∈ pre_gravity_CheckFilter_1 p0, p) (h : K (s_gravity_CheckFilter_1 p0)) : w_gravity_CheckFilter_1 p0 K := by
  unfold w_gravity_CheckFilter_1
  unfold s_gravity_CheckFilter_1 at h
  exact h
abbrev con_gravity_CheckFilter_1 : Con := ⟨P_gravity_CheckFilter_1, R_gravity_CheckFilter_1, fun x => pre_gravity_CheckFilter_1 x, fun x => s_gravity_CheckFilter_1 x⟩
theorem ok_gravity_CheckFilter_1 : ConOk Tryd.prog 121 con_gravity_CheckFilter_1 := ⟨k_gravity_CheckFilter_1, fun x hx => ret_tf (ps := P_gravity_CheckFilter_1) (rs := R_gravity_CheckFilter_1) (x := x) (y := s_gravity_CheckFilter_1 x) e_gravity_CheckFilter_1 hC_gravity_CheckFilter_1 (tf_of (w_gravity_CheckFilter_1_eq x (fun z => z = s_gravity_CheckFilter_1 x)) (d_gravity_CheckFilter_1 x (fun z => z = s_gravity_CheckFilter_1 x) hx rfl))⟩
/- slices_IndexFuncint_int__gravity_CheckFilter_1 -/
def C_slices_IndexFuncint_int__gravity_CheckFilter_1 : Cons := [(121, [], con_gravity_CheckFilter_1)]
theorem hC_slices_IndexFuncint_int__gravity_CheckFilter_1 : ConsOk Tryd.prog C_slices_IndexFuncint_int__gravity_CheckFilter_1 := ConsOk.cons ok_gravity_CheckFilter_1 <| ConsOk.nil
def w_slices_IndexFuncint_int__gravity_CheckFilter_1 (p0 : (List Int)) (p1 : PUnit) (K : Int → Prop) : Prop :=
  (∃ n0, (loopP (fun (y1 : Int) k2 =>
    ((((decide (y1 < (((List.length p0) : Nat) : Int))) = true) →
    (((0 : Int) ≤ y1) ∧
      ((y1 < (((List.length p0) : Nat) : Int)) ∧
      ((((s_gravity_CheckFilter_1 (List.getD p0 (Int.toNat y1) (0 : Int))) = true) →
      (K y1)) ∧
      (((s_gravity_CheckFilter_1 (List.getD p0 (Int.toNat y1) (0 : Int))) = false) →
      (k2 (Go.IntKind.wrap .i64 (y1 + (1 : Int))))))))) ∧
    (((decide (y1 < (((List.length p0) : Nat) : Int))) = false) →
    (K (-1 : Int))))) n0 (0 : Int)))
set_option maxHeartbeats 4000000 in
theorem w_slices_IndexFuncint_int__gravity_CheckFilter_1_eq (p0 : (List Int)) (p1 : PUnit) (K : Int → Prop) : tfn F_slices_IndexFuncint_int__gravity_CheckFilter_1 A_slices_IndexFuncint_int__gravity_CheckFilter_1 C_slices_IndexFuncint_int__gravity_CheckFilter_1 P_slices_IndexFuncint_int__gravity_CheckFilter_1 R_slices_IndexFuncint_int__gravity_CheckFilter_1 (p0, p1) K = w_slices_IndexFuncint_int__gravity_CheckFilter_1 p0 p1 K := by kernel_rfl
def st_slices_IndexFuncint_int__gravity_CheckFilter_1_0 (p0 : (List Int)) (p1 : PUnit) (y0 : Int) : Int ⊕ Int :=
  (cond (decide (y0 < (((List.length p0) : Nat) : Int))) (cond (s_gravity_CheckFilter_1 (List.getD p0 (Int.toNat y0) (0 : Int))) (Sum.inr y0)
    (Sum.inl (Go.IntKind.wrap .i64 (y0 + (1 : Int)))))
    (Sum.inr (-1 : Int)))
abbrev sp_slices_IndexFuncint_int__gravity_CheckFilter_1_0 (p0 : (List Int)) (p1 : PUnit) (y0 : Int) : List Prop := [(((decide (y0 < (((List.length p0) : Nat) : Int))) = true) → ((0 : Int) ≤ y0)),
    (((decide (y0 < (((List.length p0) : Nat) : Int))) = true) → (y0 < (((List.length p0) : Nat) : Int)))]
def s_slices_IndexFuncint_int__gravity_CheckFilter_1 (p0 : (List Int)) (p1 : PUnit) : Int :=
  (lpv (0 : Int) (st_slices_IndexFuncint_int__gravity_CheckFilter_1_0 p0 p1) (0 : Int))
abbrev pre_slices_IndexFuncint_int__gravity_CheckFilter_1 (p0 : (List Int)) (p1 : PUnit) : List Prop := [(OkL (st_slices_IndexFuncint_int__gravity_CheckFilter_1_0 p0 p1) (sp_slices_IndexFuncint_int__gravity_CheckFilter_1_0 p0 p1) (0 : Int))]
set_option maxHeartbeats 4000000 in
theorem d_slices_IndexFuncint_int__gravity_CheckFilter_1 (p0 : (List Int)) (p1 : PUnit) (K : Int → Prop) (hp : ∀ p ∈ pre_slices_IndexFuncint_int__gravity_CheckFilter_1 p0 p1, p) (h : K (s_slices_IndexFuncint_int__gravity_CheckFilter_1 p0 p1)) : w_slices_IndexFuncint_int__gravity_CheckFilter_1 p0 p1 K := by
  unfold w_slices_IndexFuncint_int__gravity_CheckFilter_1
  unfold s_slices_IndexFuncint_int__gravity_CheckFilter_1 at h
  obtain ⟨hp0, _⟩ := conj_of hp
  exact (loop_gen (hp0) h (fun y0 k0 hp h => by
  unfold st_slices_IndexFuncint_int__gravity_CheckFilter_1_0 at h; obtain ⟨hp0, hp1, _⟩ := conj_of hp
  exact (br' h (fun e1 h => ⟨(hp0 e1), ⟨(hp1 e1), (br' h (fun e2 h => h)
    (fun e2 h => h))⟩⟩)
    (fun e1 h => h))))
theorem l_slices_IndexFuncint_int__gravity_CheckFilter_1_0 (p0 : List Int) (p1 : PUnit) (hl : lenOk p0) : OkL (st_slices_IndexFuncint_int__gravity_CheckFilter_1_0 p0 p1) (sp_slices_IndexFuncint_int__gravity_CheckFilter_1_0 p0 p1) 0 ∧ lpv (0 : Int) (st_slices_IndexFuncint_int__gravity_CheckFilter_1_0 p0 p1) 0 = v_scan (fun i x => cond (s_gravity_CheckFilter_1 x) (some i) none) (-1 : Int) 0 p0 := by
  refine scan_is p0 0 (fun i x => cond (s_gravity_CheckFilter_1 x) (some i) none) (-1 : Int) hl ?_ ?_
  · refine ⟨by simp only [sp_slices_IndexFuncint_int__gravity_CheckFilter_1_0, List.forall_mem_cons, decide_eq_true_eq]; simp, by simp [st_slices_IndexFuncint_int__gravity_CheckFilter_1_0]⟩
  · intro j hj
    have hj' : (j : Int) < p0.length := by omega
    refine ⟨by simp only [sp_slices_IndexFuncint_int__gravity_CheckFilter_1_0, List.forall_mem_cons, decide_eq_true_eq, Int.toNat_natCast]; simp <;> omega, ?_⟩
    simp only [st_slices_IndexFuncint_int__gravity_CheckFilter_1_0, hj', decide_true, Int.toNat_natCast, cond_true, wrap_nat (show (j : Int) ≤ 9223372036854775806 by unfold lenOk at hl; omega)]
    generalize p0.getD j 0 = x
    cases s_gravity_CheckFilter_1 x <;> rfl
def v_idx_slices_IndexFuncint_int__gravity_CheckFilter_1 (p0 : List Int) : Int := v_scan (fun i x => cond (s_gravity_CheckFilter_1 x) (some i) none) (-1) 0 p0
abbrev t_slices_IndexFuncint_int__gravity_CheckFilter_1 (p0 : List Int) (p1 : PUnit) : Int := v_idx_slices_IndexFuncint_int__gravity_CheckFilter_1 p0
abbrev qre_slices_IndexFuncint_int__gravity_CheckFilter_1 (p0 : List Int) (p1 : PUnit) : List Prop := [lenOk p0]
theorem pp_slices_IndexFuncint_int__gravity_CheckFilter_1 (p0 : List Int) (p1 : PUnit) (hq : ∀ p ∈ qre_slices_IndexFuncint_int__gravity_CheckFilter_1 p0 p1, p) : ∀ p ∈ pre_slices_IndexFuncint_int__gravity_CheckFilter_1 p0 p1, p := by
  simp only [pre_slices_IndexFuncint_int__gravity_CheckFilter_1, List.forall_mem_cons]
  exact ⟨(l_slices_IndexFuncint_int__gravity_CheckFilter_1_0 p0 p1 (conj_of hq).1).1, by simp⟩
theorem tt_slices_IndexFuncint_int__gravity_CheckFilter_1 (p0 : List Int) (p1 : PUnit) (hq : ∀ p ∈ qre_slices_IndexFuncint_int__gravity_CheckFilter_1 p0 p1, p) : s_slices_IndexFuncint_int__gravity_CheckFilter_1 p0 p1 = t_slices_IndexFuncint_int__gravity_CheckFilter_1 p0 p1 := by
  exact (l_slices_IndexFuncint_int__gravity_CheckFilter_1_0 p0 p1 (conj_of hq).1).2

abbrev con_slices_IndexFuncint_int__gravity_CheckFilter_1 : Con := ⟨P_slices_IndexFuncint_int__gravity_CheckFilter_1, R_slices_IndexFuncint_int__gravity_CheckFilter_1, fun x => qre_slices_IndexFuncint_int__gravity_CheckFilter_1 x.1 x.2, fun x => t_slices_IndexFuncint_int__gravity_CheckFilter_1 x.1 x.2⟩
theorem ok_slices_IndexFuncint_int__gravity_CheckFilter_1 : ConOk Tryd.prog 107 con_slices_IndexFuncint_int__gravity_CheckFilter_1 := ⟨k_slices_IndexFuncint_int__gravity_CheckFilter_1, fun x hx => ret_tf (ps := P_slices_IndexFuncint_int__gravity_CheckFilter_1) (rs := R_slices_IndexFuncint_int__gravity_CheckFilter_1) (x := x) (y := t_slices_IndexFuncint_int__gravity_CheckFilter_1 x.1 x.2) e_slices_IndexFuncint_int__gravity_CheckFilter_1 hC_slices_IndexFuncint_int__gravity_CheckFilter_1 (tf_of (w_slices_IndexFuncint_int__gravity_CheckFilter_1_eq x.1 x.2 (fun z => z = t_slices_IndexFuncint_int__gravity_CheckFilter_1 x.1 x.2)) (d_slices_IndexFuncint_int__gravity_CheckFilter_1 x.1 x.2 (fun z => z = t_slices_IndexFuncint_int__gravity_CheckFilter_1 x.1 x.2) (pp_slices_IndexFuncint_int__gravity_CheckFilter_1 x.1 x.2 hx) (tt_slices_IndexFuncint_int__gravity_CheckFilter_1 x.1 x.2 hx)))⟩
/- slices_ContainsFuncint_int__gravity_CheckFilter_1 -/
def C_slices_ContainsFuncint_int__gravity_CheckFilter_1 : Cons := [(107, [121], con_slices_IndexFuncint_int__gravity_CheckFilter_1)]
theorem hC_slices_ContainsFuncint_int__gravity_CheckFilter_1 : ConsOk Tryd.prog C_slices_ContainsFuncint_int__gravity_CheckFilter_1 := ConsOk.cons ok_slices_IndexFuncint_int__gravity_CheckFilter_1 <| ConsOk.nil
def w_slices_ContainsFuncint_int__gravity_CheckFilter_1 (p0 : (List Int)) (p1 : PUnit) (K : Bool → Prop) : Prop :=
  ((lenOk p0) ∧
  (K (decide ((v_idx_slices_IndexFuncint_int__gravity_CheckFilter_1 p0) ≥ (0 : Int)))))
set_option maxHeartbeats 4000000 in
theorem w_slices_ContainsFuncint_int__gravity_CheckFilter_1_eq (p0 : (List Int)) (p1 : PUnit) (K : Bool → Prop) : tfn F_slices_ContainsFuncint_int__gravity_CheckFilter_1 A_slices_ContainsFuncint_int__gravity_CheckFilter_1 C_slices_ContainsFuncint_int__gravity_CheckFilter_1 P_slices_ContainsFuncint_int__gravity_CheckFilter_1 R_slices_ContainsFuncint_int__gravity_CheckFilter_1 (p0, p1) K = w_slices_ContainsFuncint_int__gravity_CheckFilter_1 p0 p1 K := by kernel_rfl
def s_slices_ContainsFuncint_int__gravity_CheckFilter_1 (p0 : (List Int)) (p1 : PUnit) : Bool :=
  (decide ((v_idx_slices_IndexFuncint_int__gravity_CheckFilter_1 p0) ≥ (0 : Int)))
abbrev pre_slices_ContainsFuncint_int__gravity_CheckFilter_1 (p0 : (List Int)) (p1 : PUnit) : List Prop := [(lenOk p0)]
set_option maxHeartbeats 4000000 in
theorem d_slices_ContainsFuncint_int__gravity_CheckFilter_1 (p0 : (List Int)) (p1 : PUnit) (K : Bool → Prop) (hp : ∀ p ∈ pre_slices_ContainsFuncint_int__gravity_CheckFilter_1 p0 p1, p) (h : K (s_slices_ContainsFuncint_int__gravity_CheckFilter_1 p0 p1)) : w_slices_ContainsFuncint_int__gravity_CheckFilter_1 p0 p1 K := by
  unfold w_slices_ContainsFuncint_int__gravity_CheckFilter_1
  unfold s_slices_ContainsFuncint_int__gravity_CheckFilter_1 at h
  obtain ⟨hp0, _⟩ := conj_of hp
  exact ⟨(hp0), h⟩
def v_any_slices_ContainsFuncint_int__gravity_CheckFilter_1 (p0 : List Int) : Bool := p0.any s_gravity_CheckFilter_1
abbrev t_slices_ContainsFuncint_int__gravity_CheckFilter_1 (p0 : List Int) (p1 : PUnit) : Bool := v_any_slices_ContainsFuncint_int__gravity_CheckFilter_1 p0
abbrev qre_slices_ContainsFuncint_int__gravity_CheckFilter_1 (p0 : List Int) (p1 : PUnit) : List Prop := [lenOk p0]
theorem pp_slices_ContainsFuncint_int__gravity_CheckFilter_1 (p0 : List Int) (p1 : PUnit) (hq : ∀ p ∈ qre_slices_ContainsFuncint_int__gravity_CheckFilter_1 p0 p1, p) : ∀ p ∈ pre_slices_ContainsFuncint_int__gravity_CheckFilter_1 p0 p1, p := by
  simpa only [pre_slices_ContainsFuncint_int__gravity_CheckFilter_1] using hq
theorem tt_slices_ContainsFuncint_int__gravity_CheckFilter_1 (p0 : List Int) (p1 : PUnit) (hq : ∀ p ∈ qre_slices_ContainsFuncint_int__gravity_CheckFilter_1 p0 p1, p) : s_slices_ContainsFuncint_int__gravity_CheckFilter_1 p0 p1 = t_slices_ContainsFuncint_int__gravity_CheckFilter_1 p0 p1 := by
  unfold s_slices_ContainsFuncint_int__gravity_CheckFilter_1 t_slices_ContainsFuncint_int__gravity_CheckFilter_1 v_any_slices_ContainsFuncint_int__gravity_CheckFilter_1
  exact v_scan_idx p0 0 (Int.le_refl 0)

abbrev con_slices_ContainsFuncint_int__gravity_CheckFilter_1 : Con := ⟨P_slices_ContainsFuncint_int__gravity_CheckFilter_1, R_slices_ContainsFuncint_int__gravity_CheckFilter_1, fun x => qre_slices_ContainsFuncint_int__gravity_CheckFilter_1 x.1 x.2, fun x => t_slices_ContainsFuncint_int__gravity_CheckFilter_1 x.1 x.2⟩
theorem ok_slices_ContainsFuncint_int__gravity_CheckFilter_1 : ConOk Tryd.prog 91 con_slices_ContainsFuncint_int__gravity_CheckFilter_1 := ⟨k_slices_ContainsFuncint_int__gravity_CheckFilter_1, fun x hx => ret_tf (ps := P_slices_ContainsFuncint_int__gravity_CheckFilter_1) (rs := R_slices_ContainsFuncint_int__gravity_CheckFilter_1) (x := x) (y := t_slices_ContainsFuncint_int__gravity_CheckFilter_1 x.1 x.2) e_slices_ContainsFuncint_int__gravity_CheckFilter_1 hC_slices_ContainsFuncint_int__gravity_CheckFilter_1 (tf_of (w_slices_ContainsFuncint_int__gravity_CheckFilter_1_eq x.1 x.2 (fun z => z = t_slices_ContainsFuncint_int__gravity_CheckFilter_1 x.1 x.2)) (d_slices_ContainsFuncint_int__gravity_CheckFilter_1 x.1 x.2 (fun z => z = t_slices_ContainsFuncint_int__gravity_CheckFilter_1 x.1 x.2) (pp_slices_ContainsFuncint_int__gravity_CheckFilter_1 x.1 x.2 hx) (tt_slices_ContainsFuncint_int__gravity_CheckFilter_1 x.1 x.2 hx)))⟩
/- gravity_unless -/
def C_gravity_unless : Cons := []
theorem hC_gravity_unless : ConsOk Tryd.prog C_gravity_unless := ConsOk.nil
def w_gravity_unless (p0 : Bool) (p1 : Int) (K : Int → Prop) : Prop :=
  (((p0 = true) →
  (K (0 : Int))) ∧
  ((p0 = false) →
  (K p1)))
set_option maxHeartbeats 4000000 in
theorem w_gravity_unless_eq (p0 : Bool) (p1 : Int) (K : Int → Prop) : tfn F_gravity_unless A_gravity_unless C_gravity_unless P_gravity_unless R_gravity_unless (p0, p1) K = w_gravity_unless p0 p1 K := by kernel_rfl
def s_gravity_unless (p0 : Bool) (p1 : Int) : Int :=
  (cond p0 (0 : Int)
    p1)
abbrev pre_gravity_unless (p0 : Bool) (p1 : Int) : List Prop := []
set_option maxHeartbeats 4000000 in
theorem d_gravity_unless (p0 : Bool) (p1 : Int) (K : Int → Prop) (hp : ∀ p ∈ pre_gravity_unless p0 p1, p) (h : K (s_gravity_unless p0 p1)) : w_gravity_unless p0 p1 K := by
  unfold w_gravity_unless
  unfold s_gravity_unless at h
  exact (br' h (fun e0 h => h)
    (fun e0 h => h))
abbrev con_gravity_unless : Con := ⟨P_gravity_unless, R_gravity_unless, fun x => pre_gravity_unless x.1 x.2, fun x => s_gravity_unless x.1 x.2⟩
theorem ok_gravity_unless : ConOk Tryd.prog 89 con_gravity_unless := ⟨k_gravity_unless, fun x hx => ret_tf (ps := P_gravity_unless) (rs := R_gravity_unless) (x := x) (y := s_gravity_unless x.1 x.2) e_gravity_unless hC_gravity_unless (tf_of (w_gravity_unless_eq x.1 x.2 (fun z => z = s_gravity_unless x.1 x.2)) (d_gravity_unless x.1 x.2 (fun z => z = s_gravity_unless x.1 x.2) hx rfl))⟩
theorem tx_unless0' {a : Bool} {x : Int} (hx : x ≠ 0) (h : s_gravity_unless a x = 0) : a = true := by
  cases a
  · exact (hx h).elim
  · rfl
/- gravity_first -/
def C_gravity_first : Cons := []
theorem hC_gravity_first : ConsOk Tryd.prog C_gravity_first := ConsOk.nil
def w_gravity_first (p0 : (List Int)) (K : Int → Prop) : Prop :=
  (∃ n0, (loopP (fun (y1 : Int) k2 =>
    ((((decide (y1 < (((List.length p0) : Nat) : Int))) = true) →
    (((0 : Int) ≤ y1) ∧
      ((y1 < (((List.length p0) : Nat) : Int)) ∧
      (((((List.getD p0 (Int.toNat y1) (0 : Int)) != (0 : Int)) = true) →
      (K (List.getD p0 (Int.toNat y1) (0 : Int)))) ∧
      ((((List.getD p0 (Int.toNat y1) (0 : Int)) != (0 : Int)) = false) →
      (k2 (Go.IntKind.wrap .i64 (y1 + (1 : Int))))))))) ∧
    (((decide (y1 < (((List.length p0) : Nat) : Int))) = false) →
    (K (0 : Int))))) n0 (0 : Int)))
set_option maxHeartbeats 4000000 in
theorem w_gravity_first_eq (p0 : (List Int)) (K : Int → Prop) : tfn F_gravity_first A_gravity_first C_gravity_first P_gravity_first R_gravity_first p0 K = w_gravity_first p0 K := by kernel_rfl
def st_gravity_first_0 (p0 : (List Int)) (y0 : Int) : Int ⊕ Int :=
  (cond (decide (y0 < (((List.length p0) : Nat) : Int))) (cond ((List.getD p0 (Int.toNat y0) (0 : Int)) != (0 : Int)) (Sum.inr (List.getD p0 (Int.toNat y0) (0 : Int)))
    (Sum.inl (Go.IntKind.wrap .i64 (y0 + (1 : Int)))))
    (Sum.inr (0 : Int)))
abbrev sp_gravity_first_0 (p0 : (List Int)) (y0 : Int) : List Prop := [(((decide (y0 < (((List.length p0) : Nat) : Int))) = true) → ((0 : Int) ≤ y0)),
    (((decide (y0 < (((List.length p0) : Nat) : Int))) = true) → (y0 < (((List.length p0) : Nat) : Int)))]
def s_gravity_first (p0 : (List Int)) : Int :=
  (lpv (0 : Int) (st_gravity_first_0 p0) (0 : Int))
abbrev pre_gravity_first (p0 : (List Int)) : List Prop := [(OkL (st_gravity_first_0 p0) (sp_gravity_first_0 p0) (0 : Int))]
set_option maxHeartbeats 4000000 in
theorem d_gravity_first (p0 : (List Int)) (K : Int → Prop) (hp : ∀ p ∈ pre_gravity_first p0, p) (h : K (s_gravity_first p0)) : w_gravity_first p0 K := by
  unfold w_gravity_first
  unfold s_gravity_first at h
  obtain ⟨hp0, _⟩ := conj_of hp
  exact (loop_gen (hp0) h (fun y0 k0 hp h => by
  unfold st_gravity_first_0 at h; obtain ⟨hp0, hp1, _⟩ := conj_of hp
  exact (br' h (fun e1 h => ⟨(hp0 e1), ⟨(hp1 e1), (br' h (fun e2 h => h)
    (fun e2 h => h))⟩⟩)
    (fun e1 h => h))))
theorem l_gravity_first_0 (p0 : List Int) (hl : lenOk p0) : OkL (st_gravity_first_0 p0) (sp_gravity_first_0 p0) 0 ∧ lpv (0 : Int) (st_gravity_first_0 p0) 0 = v_scan (fun _ x => cond (x != 0) (some x) none) (0 : Int) 0 p0 := by
  refine scan_is p0 0 (fun _ x => cond (x != 0) (some x) none) (0 : Int) hl ?_ ?_
  · refine ⟨by simp only [sp_gravity_first_0, List.forall_mem_cons, decide_eq_true_eq]; simp, by simp [st_gravity_first_0]⟩
  · intro j hj
    have hj' : (j : Int) < p0.length := by omega
    refine ⟨by simp only [sp_gravity_first_0, List.forall_mem_cons, decide_eq_true_eq, Int.toNat_natCast]; simp <;> omega, ?_⟩
    simp only [st_gravity_first_0, hj', decide_true, Int.toNat_natCast, cond_true, wrap_nat (show (j : Int) ≤ 9223372036854775806 by unfold lenOk at hl; omega)]
    generalize p0.getD j 0 = x
    cases (x != 0) <;> rfl
abbrev t_gravity_first (p0 : List Int) : Int := v_first p0
abbrev qre_gravity_first (p0 : List Int) : List Prop := [lenOk p0]
theorem pp_gravity_first (p0 : List Int) (hq : ∀ p ∈ qre_gravity_first p0, p) : ∀ p ∈ pre_gravity_first p0, p := by
  simp only [pre_gravity_first, List.forall_mem_cons]
  exact ⟨(l_gravity_first_0 p0 (conj_of hq).1).1, by simp⟩
theorem tt_gravity_first (p0 : List Int) (hq : ∀ p ∈ qre_gravity_first p0, p) : s_gravity_first p0 = t_gravity_first p0 := by
  exact (l_gravity_first_0 p0 (conj_of hq).1).2.trans (v_first_scan p0 0)

abbrev con_gravity_first : Con := ⟨P_gravity_first, R_gravity_first, fun x => qre_gravity_first x, fun x => t_gravity_first x⟩
theorem ok_gravity_first : ConOk Tryd.prog 88 con_gravity_first := ⟨k_gravity_first, fun x hx => ret_tf (ps := P_gravity_first) (rs := R_gravity_first) (x := x) (y := t_gravity_first x) e_gravity_first hC_gravity_first (tf_of (w_gravity_first_eq x (fun z => z = t_gravity_first x)) (d_gravity_first x (fun z => z = t_gravity_first x) (pp_gravity_first x hx) (tt_gravity_first x hx)))⟩
/- slices_Cloneint_int -/
def C_slices_Cloneint_int : Cons := []
theorem hC_slices_Cloneint_int : ConsOk Tryd.prog C_slices_Cloneint_int := ConsOk.nil
def w_slices_Cloneint_int (p0 : (List Int)) (K : (List Int) → Prop) : Prop :=
  ((((List.length p0) = 0) →
  (K ([] : List Int))) ∧
  (((((List.length ([] : List Int)) + (List.length p0)) * 8) ≤ 140737488355328) ∧
  (K (([] : List Int) ++ p0))))
set_option maxHeartbeats 4000000 in
theorem w_slices_Cloneint_int_eq (p0 : (List Int)) (K : (List Int) → Prop) : tfnO F_slices_Cloneint_int A_slices_Cloneint_int C_slices_Cloneint_int P_slices_Cloneint_int E_slices_Cloneint_int p0 K = w_slices_Cloneint_int p0 K := by kernel_rfl
def s_slices_Cloneint_int (p0 : List Int) : List Int := p0
abbrev pre_slices_Cloneint_int (p0 : List Int) : List Prop := [p0.length ≤ 1000000]
theorem d_slices_Cloneint_int (p0 : List Int) (K : List Int → Prop) (hp : ∀ p ∈ pre_slices_Cloneint_int p0, p) (h : K (s_slices_Cloneint_int p0)) : w_slices_Cloneint_int p0 K := by
  have h1 := (conj_of hp).1
  refine ⟨fun e => ?_, by simp only [List.length_nil]; omega, h⟩
  have : p0 = [] := List.eq_nil_of_length_eq_zero e
  subst this; exact h

abbrev con_slices_Cloneint_int : Con := ⟨P_slices_Cloneint_int, [.one (.sl E_slices_Cloneint_int)], fun x => pre_slices_Cloneint_int x, fun x => s_slices_Cloneint_int x⟩
theorem ok_slices_Cloneint_int : ConOOk Tryd.prog 125 con_slices_Cloneint_int := conO_tf (e := E_slices_Cloneint_int) (ps := P_slices_Cloneint_int) k_slices_Cloneint_int e_slices_Cloneint_int hC_slices_Cloneint_int (fun x hx => tfo_of (w_slices_Cloneint_int_eq x (fun z => z = s_slices_Cloneint_int x)) (d_slices_Cloneint_int x (fun z => z = s_slices_Cloneint_int x) hx rfl))
/- slices_Reverseint_int -/
def C_slices_Reverseint_int : Cons := []
theorem hC_slices_Reverseint_int : ConsOk Tryd.prog C_slices_Reverseint_int := ConsOk.nil
def w_slices_Reverseint_int (p0 : (List Int)) (K : (List Int) → Prop) : Prop :=
  (∃ n0, (loopP (fun (y1 : (Int × (Int × (List Int)))) k2 =>
    ((((decide (y1.2.1 < y1.1)) = true) →
    (((0 : Int) ≤ y1.1) ∧
      ((y1.1 < (((List.length y1.2.2) : Nat) : Int)) ∧
      (((0 : Int) ≤ y1.2.1) ∧
      ((y1.2.1 < (((List.length y1.2.2) : Nat) : Int)) ∧
      (((0 : Int) ≤ y1.2.1) ∧
      ((y1.2.1 < (((List.length y1.2.2) : Nat) : Int)) ∧
      (((0 : Int) ≤ y1.1) ∧
      ((y1.1 < (((List.length (List.set y1.2.2 (Int.toNat y1.2.1) (List.getD y1.2.2 (Int.toNat y1.1) (0 : Int)))) : Nat) : Int)) ∧
      (k2 ((Go.IntKind.wrap .i64 (y1.1 - (1 : Int))), ((Go.IntKind.wrap .i64 (y1.2.1 + (1 : Int))), (List.set (List.set y1.2.2 (Int.toNat y1.2.1) (List.getD y1.2.2 (Int.toNat y1.1) (0 : Int))) (Int.toNat y1.1) (List.getD y1.2.2 (Int.toNat y1.2.1) (0 : Int))))))))))))))) ∧
    (((decide (y1.2.1 < y1.1)) = false) →
    (K y1.2.2)))) n0 ((Go.IntKind.wrap .i64 ((((List.length p0) : Nat) : Int) - (1 : Int))), ((0 : Int), p0))))
set_option maxHeartbeats 4000000 in
theorem w_slices_Reverseint_int_eq (p0 : (List Int)) (K : (List Int) → Prop) : tfnN F_slices_Reverseint_int A_slices_Reverseint_int C_slices_Reverseint_int 1 P_slices_Reverseint_int R_slices_Reverseint_int p0 K = w_slices_Reverseint_int p0 K := by kernel_rfl
def st_slices_Reverseint_int_0 (p0 : (List Int)) (y0 : (Int × (Int × (List Int)))) : (Int × (Int × (List Int))) ⊕ (List Int) :=
  (cond (decide (y0.2.1 < y0.1)) (Sum.inl ((Go.IntKind.wrap .i64 (y0.1 - (1 : Int))), ((Go.IntKind.wrap .i64 (y0.2.1 + (1 : Int))), (List.set (List.set y0.2.2 (Int.toNat y0.2.1) (List.getD y0.2.2 (Int.toNat y0.1) (0 : Int))) (Int.toNat y0.1) (List.getD y0.2.2 (Int.toNat y0.2.1) (0 : Int))))))
    (Sum.inr y0.2.2))
abbrev sp_slices_Reverseint_int_0 (p0 : (List Int)) (y0 : (Int × (Int × (List Int)))) : List Prop := [(((decide (y0.2.1 < y0.1)) = true) → ((0 : Int) ≤ y0.1)),
    (((decide (y0.2.1 < y0.1)) = true) → (y0.1 < (((List.length y0.2.2) : Nat) : Int))),
    (((decide (y0.2.1 < y0.1)) = true) → ((0 : Int) ≤ y0.2.1)),
    (((decide (y0.2.1 < y0.1)) = true) → (y0.2.1 < (((List.length y0.2.2) : Nat) : Int))),
    (((decide (y0.2.1 < y0.1)) = true) → (y0.1 < (((List.length (List.set y0.2.2 (Int.toNat y0.2.1) (List.getD y0.2.2 (Int.toNat y0.1) (0 : Int)))) : Nat) : Int)))]
def s_slices_Reverseint_int (p0 : (List Int)) : (List Int) :=
  (lpv [] (st_slices_Reverseint_int_0 p0) ((Go.IntKind.wrap .i64 ((((List.length p0) : Nat) : Int) - (1 : Int))), ((0 : Int), p0)))
abbrev pre_slices_Reverseint_int (p0 : (List Int)) : List Prop := [(OkL (st_slices_Reverseint_int_0 p0) (sp_slices_Reverseint_int_0 p0) ((Go.IntKind.wrap .i64 ((((List.length p0) : Nat) : Int) - (1 : Int))), ((0 : Int), p0)))]
set_option maxHeartbeats 4000000 in
theorem d_slices_Reverseint_int (p0 : (List Int)) (K : (List Int) → Prop) (hp : ∀ p ∈ pre_slices_Reverseint_int p0, p) (h : K (s_slices_Reverseint_int p0)) : w_slices_Reverseint_int p0 K := by
  unfold w_slices_Reverseint_int
  unfold s_slices_Reverseint_int at h
  obtain ⟨hp0, _⟩ := conj_of hp
  exact (loop_gen (hp0) h (fun y0 k0 hp h => by
  unfold st_slices_Reverseint_int_0 at h; obtain ⟨hp0, hp1, hp2, hp3, hp4, _⟩ := conj_of hp
  exact (br' h (fun e1 h => ⟨(hp0 e1), ⟨(hp1 e1), ⟨(hp2 e1), ⟨(hp3 e1), ⟨(hp2 e1), ⟨(hp3 e1), ⟨(hp0 e1), ⟨(hp4 e1), h⟩⟩⟩⟩⟩⟩⟩⟩)
    (fun e1 h => h))))
def v_rev (l : List Int) : List Int := l.reverse
theorem l_slices_Reverseint_int (p0 : List Int) (h : p0.length ≤ 1000000) : OkL (st_slices_Reverseint_int_0 p0) (sp_slices_Reverseint_int_0 p0) ((Go.IntKind.wrap .i64 ((((List.length p0) : Nat) : Int) - (1 : Int))), ((0 : Int), p0)) ∧ s_slices_Reverseint_int p0 = p0.reverse := by
  unfold s_slices_Reverseint_int
  rw [wrap_id (show -9223372036854775808 ≤ (p0.length : Int) - 1 by omega) (by omega)]
  refine loop_is (fun y : Int × Int × List Int => ∃ i : Nat, y.2.1 = i ∧ y.1 = p0.length - 1 - i ∧ 2 * i ≤ p0.length + 1 ∧ y.2.2.length = p0.length ∧ ∀ k, k < p0.length → y.2.2.getD k 0 = p0.getD (if k < i ∨ p0.length ≤ k + i then p0.length - 1 - k else k) 0) (fun y => (y.1 + 1).toNat) (fun _ => p0.reverse) ?_ ⟨0, rfl, by simp, by omega, rfl, fun k hk => by rw [if_neg (by omega)]⟩ (by unfold fuel; simp only; omega)
  rintro ⟨j, i', l⟩ ⟨i, h1, h2, h3, h4, h5⟩
  simp only at h1 h2 h4 h5
  subst h1
  by_cases c : (i : Int) < j
  · obtain ⟨q, hq⟩ : ∃ q : Nat, j = q := ⟨j.toNat, by omega⟩
    subst hq
    refine ⟨by simp only [sp_slices_Reverseint_int_0, List.forall_mem_cons, List.length_set]; exact ⟨fun _ => by omega, fun _ => by omega, fun _ => by omega, fun _ => by omega, fun _ => by omega, by simp⟩, ?_⟩
    simp only [st_slices_Reverseint_int_0, c, decide_true, cond_true, Int.toNat_natCast, wrap_nat (show (i : Int) ≤ 9223372036854775806 by omega), wrap_id (show -9223372036854775808 ≤ (q : Int) - 1 by omega) (show (q : Int) - 1 ≤ 9223372036854775807 by omega)]
    refine ⟨⟨i + 1, rfl, by omega, by omega, by simp [h4], fun k hk => ?_⟩, by omega, trivial⟩
    rw [gd_set (by simp; omega), gd_set (by omega)]
    by_cases k1 : k = q
    · rw [if_pos k1, h5 i (by omega), if_neg (by omega), if_pos (by omega)]
      congr 1; omega
    · rw [if_neg k1]
      by_cases k2 : k = i
      · rw [if_pos k2, h5 q (by omega), if_neg (by omega), if_pos (by omega)]
        congr 1; omega
      · rw [if_neg k2, h5 k hk]
        by_cases k3 : k < i ∨ p0.length ≤ k + i
        · rw [if_pos k3, if_pos (by omega)]
        · rw [if_neg k3, if_neg (by omega)]
  · refine ⟨by simp only [sp_slices_Reverseint_int_0, List.forall_mem_cons, c, decide_false]; simp, ?_⟩
    simp only [st_slices_Reverseint_int_0, c, decide_false, cond_false]
    refine gd_ext 0 (by simp [h4]) fun k hk => ?_
    rw [List.length_reverse] at hk
    rw [gd_rev hk, h5 k hk]
    by_cases k3 : k < i ∨ p0.length ≤ k + i
    · rw [if_pos k3]
    · rw [if_neg k3]; congr 1; omega
abbrev t_slices_Reverseint_int (p0 : List Int) : List Int := v_rev p0
abbrev qre_slices_Reverseint_int (p0 : List Int) : List Prop := [p0.length ≤ 1000000]
theorem pp_slices_Reverseint_int (p0 : List Int) (hq : ∀ p ∈ qre_slices_Reverseint_int p0, p) : ∀ p ∈ pre_slices_Reverseint_int p0, p := by
  simp only [pre_slices_Reverseint_int, List.forall_mem_cons]
  exact ⟨(l_slices_Reverseint_int p0 (conj_of hq).1).1, by simp⟩
theorem tt_slices_Reverseint_int (p0 : List Int) (hq : ∀ p ∈ qre_slices_Reverseint_int p0, p) : s_slices_Reverseint_int p0 = t_slices_Reverseint_int p0 := by
  exact (l_slices_Reverseint_int p0 (conj_of hq).1).2
theorem hl_slices_Reverseint_int (p0 : List Int) (_ : ∀ p ∈ qre_slices_Reverseint_int p0, p) : ((valPs R_slices_Reverseint_int (t_slices_Reverseint_int p0)).drop (R_slices_Reverseint_int.length - 1)).map (fun v => (slEs v).length) = ((valPs P_slices_Reverseint_int p0).drop (P_slices_Reverseint_int.length - 1)).map (fun v => (slEs v).length) := by
  simp [valPs, valP, slEs, Ty.enc, t_slices_Reverseint_int, v_rev]

abbrev con_slices_Reverseint_int : Con := ⟨P_slices_Reverseint_int, R_slices_Reverseint_int, fun x => qre_slices_Reverseint_int x, fun x => t_slices_Reverseint_int x⟩
theorem ok_slices_Reverseint_int : ConNOk Tryd.prog 129 1 con_slices_Reverseint_int := conN_tf k_slices_Reverseint_int e_slices_Reverseint_int hC_slices_Reverseint_int con_slices_Reverseint_int (by decide) (by decide) rfl rfl (fun x hx => tfN_of (w_slices_Reverseint_int_eq x (fun z => z = t_slices_Reverseint_int x)) (d_slices_Reverseint_int x (fun z => z = t_slices_Reverseint_int x) (pp_slices_Reverseint_int x hx) (tt_slices_Reverseint_int x hx))) (fun x hx => hl_slices_Reverseint_int x hx)
/- gravity_both -/
def C_gravity_both : Cons := [(125, ownMark, con_slices_Cloneint_int), (129, nMark 1, con_slices_Reverseint_int)]
theorem hC_gravity_both : ConsOk Tryd.prog C_gravity_both := ConsOk.consO ok_slices_Cloneint_int <| ConsOk.consN ok_slices_Reverseint_int <| ConsOk.nil
def w_gravity_both (p0 : (List Int)) (K : (List Int) → Prop) : Prop :=
  (((List.length p0) ≤ 1000000) ∧
  ((0 < (List.length p0)) ∧
  (((List.length p0) ≤ 1000000) ∧
  (((0 : Int) ≤ (1 : Int)) ∧
  (((1 : Int) ≤ (((List.length p0) : Nat) : Int)) ∧
  (((((List.length (v_rev p0)) + (List.length (List.drop (Int.toNat (1 : Int)) p0))) * 8) ≤ 140737488355328) ∧
  (K ((v_rev p0) ++ (List.drop (Int.toNat (1 : Int)) p0)))))))))
set_option maxHeartbeats 4000000 in
theorem w_gravity_both_eq (p0 : (List Int)) (K : (List Int) → Prop) : tfnO F_gravity_both A_gravity_both C_gravity_both P_gravity_both E_gravity_both p0 K = w_gravity_both p0 K := by kernel_rfl
def s_gravity_both (p0 : (List Int)) : (List Int) :=
  ((v_rev p0) ++ (List.drop (Int.toNat (1 : Int)) p0))
abbrev pre_gravity_both (p0 : (List Int)) : List Prop := [((List.length p0) ≤ 1000000),
    (0 < (List.length p0)),
    ((1 : Int) ≤ (((List.length p0) : Nat) : Int)),
    ((((List.length (v_rev p0)) + (List.length (List.drop (Int.toNat (1 : Int)) p0))) * 8) ≤ 140737488355328)]
set_option maxHeartbeats 4000000 in
theorem d_gravity_both (p0 : (List Int)) (K : (List Int) → Prop) (hp : ∀ p ∈ pre_gravity_both p0, p) (h : K (s_gravity_both p0)) : w_gravity_both p0 K := by
  unfold w_gravity_both
  unfold s_gravity_both at h
  obtain ⟨hp0, hp1, hp2, hp3, _⟩ := conj_of hp
  exact ⟨(hp0), ⟨(hp1), ⟨(hp0), ⟨(of_decide_eq_true rfl), ⟨(hp2), ⟨(hp3), h⟩⟩⟩⟩⟩⟩
/-- The weight of a neighbour on either side, 0 beyond the last one. -/
def v_at (f : List Int) (k : Int) : Int := f.getD k.natAbs 0
theorem v_at_out {f : List Int} {k : Int} (h : f.length ≤ k.natAbs) : v_at f k = 0 := gd_out _ h
theorem v_at_in {f : List Int} {m : Int} (hm : 0 ≤ m) (h : ∀ x ∈ f, -m ≤ x ∧ x ≤ m) (k : Int) : -m ≤ v_at f k ∧ v_at f k ≤ m := by
  by_cases c : k.natAbs < f.length
  · exact h _ (getD_mem' 0 c)
  · rw [v_at_out (by omega)]; omega
/-- The weights on both sides. -/
def v_both (f : List Int) : List Int := f.reverse ++ f.drop 1
theorem v_both_len {f : List Int} (h : 1 ≤ f.length) : (v_both f).length = 2 * f.length - 1 := by simp [v_both]; omega
theorem v_both_at {f : List Int} {k : Nat} (h : k < 2 * f.length - 1) : (v_both f).getD k 0 = v_at f ((k : Int) - ((f.length : Int) - 1)) := by
  unfold v_both v_at
  rw [gd_app, List.length_reverse]
  by_cases c : k < f.length
  · rw [if_pos c, gd_rev c]; congr 1; omega
  · rw [if_neg c, gd_drop]; congr 1; omega
/-- Weights. -/
structure v_fw (f : List Int) : Prop where
  one : 1 ≤ f.length
  nine : f.length ≤ 9
  all : ∀ x ∈ f, -100000 ≤ x ∧ x ≤ 100000
theorem v_fw.at {f : List Int} (h : v_fw f) (k : Int) : -100000 ≤ v_at f k ∧ v_at f k ≤ 100000 := v_at_in (by decide) h.all k
/-- The sum of a filter. -/
def v_fsum (f : List Int) : Int := v_sums (fun j => v_at f ((j : Int) - ((f.length : Int) - 1))) 0 (2 * f.length - 1)
abbrev t_gravity_both (p0 : List Int) : List Int := v_both p0
abbrev qre_gravity_both (p0 : List Int) : List Prop := [1 ≤ p0.length ∧ p0.length ≤ 1000000]
theorem pp_gravity_both (p0 : List Int) (hq : ∀ p ∈ qre_gravity_both p0, p) : ∀ p ∈ pre_gravity_both p0, p := by
  have h := (conj_of hq).1
  simp only [pre_gravity_both, List.forall_mem_cons]
  exact ⟨h.2, by omega, by omega, by simp [v_rev]; omega, by simp⟩
theorem tt_gravity_both (p0 : List Int) (hq : ∀ p ∈ qre_gravity_both p0, p) : s_gravity_both p0 = t_gravity_both p0 := by
  rfl

abbrev con_gravity_both : Con := ⟨P_gravity_both, [.one (.sl E_gravity_both)], fun x => qre_gravity_both x, fun x => t_gravity_both x⟩
theorem ok_gravity_both : ConOOk Tryd.prog 90 con_gravity_both := conO_tf (e := E_gravity_both) (ps := P_gravity_both) k_gravity_both e_gravity_both hC_gravity_both (fun x hx => tfo_of (w_gravity_both_eq x (fun z => z = t_gravity_both x)) (d_gravity_both x (fun z => z = t_gravity_both x) (pp_gravity_both x hx) (tt_gravity_both x hx)))
/- gravity_sum -/
def C_gravity_sum : Cons := [(90, ownMark, con_gravity_both)]
theorem hC_gravity_sum : ConsOk Tryd.prog C_gravity_sum := ConsOk.consO ok_gravity_both <| ConsOk.nil
def w_gravity_sum (p0 : (List Int)) (K : Int → Prop) : Prop :=
  (((1 ≤ (List.length p0)) ∧
  ((List.length p0) ≤ 1000000)) ∧
  (∃ n0, (loopP (fun (y1 : (Int × Int)) k2 =>
    ((((decide (y1.1 < (((List.length (v_both p0)) : Nat) : Int))) = true) →
    (((0 : Int) ≤ y1.1) ∧
      ((y1.1 < (((List.length (v_both p0)) : Nat) : Int)) ∧
      (k2 ((Go.IntKind.wrap .i64 (y1.1 + (1 : Int))), (Go.IntKind.wrap .i64 (y1.2 + (List.getD (v_both p0) (Int.toNat y1.1) (0 : Int))))))))) ∧
    (((decide (y1.1 < (((List.length (v_both p0)) : Nat) : Int))) = false) →
    (K y1.2)))) n0 ((0 : Int), (0 : Int)))))
set_option maxHeartbeats 4000000 in
theorem w_gravity_sum_eq (p0 : (List Int)) (K : Int → Prop) : tfn F_gravity_sum A_gravity_sum C_gravity_sum P_gravity_sum R_gravity_sum p0 K = w_gravity_sum p0 K := by kernel_rfl
def st_gravity_sum_0 (p0 : (List Int)) (y0 : (Int × Int)) : (Int × Int) ⊕ Int :=
  (cond (decide (y0.1 < (((List.length (v_both p0)) : Nat) : Int))) (Sum.inl ((Go.IntKind.wrap .i64 (y0.1 + (1 : Int))), (Go.IntKind.wrap .i64 (y0.2 + (List.getD (v_both p0) (Int.toNat y0.1) (0 : Int))))))
    (Sum.inr y0.2))
abbrev sp_gravity_sum_0 (p0 : (List Int)) (y0 : (Int × Int)) : List Prop := [(((decide (y0.1 < (((List.length (v_both p0)) : Nat) : Int))) = true) → ((0 : Int) ≤ y0.1)),
    (((decide (y0.1 < (((List.length (v_both p0)) : Nat) : Int))) = true) → (y0.1 < (((List.length (v_both p0)) : Nat) : Int)))]
def s_gravity_sum (p0 : (List Int)) : Int :=
  (lpv (0 : Int) (st_gravity_sum_0 p0) ((0 : Int), (0 : Int)))
abbrev pre_gravity_sum (p0 : (List Int)) : List Prop := [((1 ≤ (List.length p0)) ∧ ((List.length p0) ≤ 1000000)),
    (OkL (st_gravity_sum_0 p0) (sp_gravity_sum_0 p0) ((0 : Int), (0 : Int)))]
set_option maxHeartbeats 4000000 in
theorem d_gravity_sum (p0 : (List Int)) (K : Int → Prop) (hp : ∀ p ∈ pre_gravity_sum p0, p) (h : K (s_gravity_sum p0)) : w_gravity_sum p0 K := by
  unfold w_gravity_sum
  unfold s_gravity_sum at h
  obtain ⟨hp0, hp1, _⟩ := conj_of hp
  exact ⟨(hp0), (loop_gen (hp1) h (fun y0 k0 hp h => by
  unfold st_gravity_sum_0 at h; obtain ⟨hp0, hp1, _⟩ := conj_of hp
  exact (br' h (fun e1 h => ⟨(hp0 e1), ⟨(hp1 e1), h⟩⟩)
    (fun e1 h => h))))⟩
theorem l_gravity_sum (p0 : List Int) (h : v_fw p0) : OkL (st_gravity_sum_0 p0) (sp_gravity_sum_0 p0) (0, 0) ∧ s_gravity_sum p0 = v_fsum p0 := by
  have h1 := h.one
  have h2 := h.nine
  have hl := v_both_len h1
  refine for_is (fun i t => (i, t)) 0 (2 * p0.length - 1) (fun j t => t = v_sums (fun j => v_at p0 ((j : Int) - ((p0.length : Int) - 1))) 0 j) (fun _ _ => v_fsum p0) (by omega) (by omega) ?_ ?_ 0 rfl
  · intro t ht
    have hd : decide (((2 * p0.length - 1 : Nat) : Int) < ((v_both p0).length : Nat)) = false := decide_eq_false (by omega)
    refine ⟨by simp only [sp_gravity_sum_0, List.forall_mem_cons, hd]; simp, ?_⟩
    simp only [st_gravity_sum_0, hd, cond_false]
    rw [ht]; rfl
  · intro j t _ hj ht
    have hd : decide ((j : Int) < ((v_both p0).length : Nat)) = true := decide_eq_true (by omega)
    refine ⟨by simp only [sp_gravity_sum_0, List.forall_mem_cons, hd]; exact ⟨fun _ => by omega, fun _ => by omega, by simp⟩, .inl ⟨_, ?_, rfl, rfl⟩⟩
    have hb := v_sums_in (f := fun j => v_at p0 ((j : Int) - ((p0.length : Int) - 1))) (m := 100000) j 0 (fun k _ _ => h.at _)
    have ha := h.at ((j : Int) - ((p0.length : Int) - 1))
    simp only [st_gravity_sum_0, hd, cond_true, Int.toNat_natCast, wrap_nat (show (j : Int) ≤ 9223372036854775806 by omega)]
    rw [v_both_at hj, ht, v_sums_last, Nat.zero_add, wrap_id (by omega) (by omega)]
abbrev t_gravity_sum (p0 : List Int) : Int := v_fsum p0
abbrev qre_gravity_sum (p0 : List Int) : List Prop := [v_fw p0]
theorem pp_gravity_sum (p0 : List Int) (hq : ∀ p ∈ qre_gravity_sum p0, p) : ∀ p ∈ pre_gravity_sum p0, p := by
  have h := (conj_of hq).1
  have h1 := h.one
  have h2 := h.nine
  simp only [pre_gravity_sum, List.forall_mem_cons]
  exact ⟨by omega, (l_gravity_sum p0 h).1, by simp⟩
theorem tt_gravity_sum (p0 : List Int) (hq : ∀ p ∈ qre_gravity_sum p0, p) : s_gravity_sum p0 = t_gravity_sum p0 := by
  exact (l_gravity_sum p0 (conj_of hq).1).2

abbrev con_gravity_sum : Con := ⟨P_gravity_sum, R_gravity_sum, fun x => qre_gravity_sum x, fun x => t_gravity_sum x⟩
theorem ok_gravity_sum : ConOk Tryd.prog 116 con_gravity_sum := ⟨k_gravity_sum, fun x hx => ret_tf (ps := P_gravity_sum) (rs := R_gravity_sum) (x := x) (y := t_gravity_sum x) e_gravity_sum hC_gravity_sum (tf_of (w_gravity_sum_eq x (fun z => z = t_gravity_sum x)) (d_gravity_sum x (fun z => z = t_gravity_sum x) (pp_gravity_sum x hx) (tt_gravity_sum x hx)))⟩
/- gravity_CheckFilter -/
def C_gravity_CheckFilter : Cons := [(91, [121], con_slices_ContainsFuncint_int__gravity_CheckFilter_1), (89, [], con_gravity_unless), (88, [], con_gravity_first), (116, [], con_gravity_sum)]
theorem hC_gravity_CheckFilter : ConsOk Tryd.prog C_gravity_CheckFilter := ConsOk.cons ok_slices_ContainsFuncint_int__gravity_CheckFilter_1 <| ConsOk.cons ok_gravity_unless <| ConsOk.cons ok_gravity_first <| ConsOk.cons ok_gravity_sum <| ConsOk.nil
def w_gravity_CheckFilter (p0 : (List Int)) (K : Int → Prop) : Prop :=
  ((lenOk p0) ∧
  ((lenOk ((s_gravity_unless (decide ((((List.length p0) : Nat) : Int) > (0 : Int))) (10 : Int)) :: ((s_gravity_unless (decide ((((List.length p0) : Nat) : Int) ≤ (9 : Int))) (8 : Int)) :: ((s_gravity_unless (!(v_any_slices_ContainsFuncint_int__gravity_CheckFilter_1 p0)) (2 : Int)) :: ([] : List Int))))) ∧
  (((((v_first ((s_gravity_unless (decide ((((List.length p0) : Nat) : Int) > (0 : Int))) (10 : Int)) :: ((s_gravity_unless (decide ((((List.length p0) : Nat) : Int) ≤ (9 : Int))) (8 : Int)) :: ((s_gravity_unless (!(v_any_slices_ContainsFuncint_int__gravity_CheckFilter_1 p0)) (2 : Int)) :: ([] : List Int))))) != (0 : Int)) = true) →
  (K (v_first ((s_gravity_unless (decide ((((List.length p0) : Nat) : Int) > (0 : Int))) (10 : Int)) :: ((s_gravity_unless (decide ((((List.length p0) : Nat) : Int) ≤ (9 : Int))) (8 : Int)) :: ((s_gravity_unless (!(v_any_slices_ContainsFuncint_int__gravity_CheckFilter_1 p0)) (2 : Int)) :: ([] : List Int))))))) ∧
  ((((v_first ((s_gravity_unless (decide ((((List.length p0) : Nat) : Int) > (0 : Int))) (10 : Int)) :: ((s_gravity_unless (decide ((((List.length p0) : Nat) : Int) ≤ (9 : Int))) (8 : Int)) :: ((s_gravity_unless (!(v_any_slices_ContainsFuncint_int__gravity_CheckFilter_1 p0)) (2 : Int)) :: ([] : List Int))))) != (0 : Int)) = false) →
  ((v_fw p0) ∧
    (K (s_gravity_unless (decide ((v_fsum p0) > (0 : Int))) (11 : Int))))))))
set_option maxHeartbeats 4000000 in
theorem w_gravity_CheckFilter_eq (p0 : (List Int)) (K : Int → Prop) : tfn F_gravity_CheckFilter A_gravity_CheckFilter C_gravity_CheckFilter P_gravity_CheckFilter R_gravity_CheckFilter p0 K = w_gravity_CheckFilter p0 K := by kernel_rfl
def s_gravity_CheckFilter (p0 : (List Int)) : Int :=
  (cond ((v_first ((s_gravity_unless (decide ((((List.length p0) : Nat) : Int) > (0 : Int))) (10 : Int)) :: ((s_gravity_unless (decide ((((List.length p0) : Nat) : Int) ≤ (9 : Int))) (8 : Int)) :: ((s_gravity_unless (!(v_any_slices_ContainsFuncint_int__gravity_CheckFilter_1 p0)) (2 : Int)) :: ([] : List Int))))) != (0 : Int)) (v_first ((s_gravity_unless (decide ((((List.length p0) : Nat) : Int) > (0 : Int))) (10 : Int)) :: ((s_gravity_unless (decide ((((List.length p0) : Nat) : Int) ≤ (9 : Int))) (8 : Int)) :: ((s_gravity_unless (!(v_any_slices_ContainsFuncint_int__gravity_CheckFilter_1 p0)) (2 : Int)) :: ([] : List Int)))))
    (s_gravity_unless (decide ((v_fsum p0) > (0 : Int))) (11 : Int)))
abbrev pre_gravity_CheckFilter (p0 : (List Int)) : List Prop := [(lenOk p0),
    ((((v_first ((s_gravity_unless (decide ((((List.length p0) : Nat) : Int) > (0 : Int))) (10 : Int)) :: ((s_gravity_unless (decide ((((List.length p0) : Nat) : Int) ≤ (9 : Int))) (8 : Int)) :: ((s_gravity_unless (!(v_any_slices_ContainsFuncint_int__gravity_CheckFilter_1 p0)) (2 : Int)) :: ([] : List Int))))) != (0 : Int)) = false) → (v_fw p0))]
set_option maxHeartbeats 4000000 in
theorem d_gravity_CheckFilter (p0 : (List Int)) (K : Int → Prop) (hp : ∀ p ∈ pre_gravity_CheckFilter p0, p) (h : K (s_gravity_CheckFilter p0)) : w_gravity_CheckFilter p0 K := by
  unfold w_gravity_CheckFilter
  unfold s_gravity_CheckFilter at h
  obtain ⟨hp0, hp1, _⟩ := conj_of hp
  exact ⟨(hp0), ⟨(lenOk_of 3 rfl (by decide)), (br' h (fun e0 h => h)
    (fun e0 h => ⟨(hp1 e0), h⟩))⟩⟩
/-- The errors of weights alone. -/
def v_fw0 (p0 : List Int) : Int := v_first [s_gravity_unless (decide ((p0.length : Int) > 0)) 10, s_gravity_unless (decide ((p0.length : Int) ≤ 9)) 8, s_gravity_unless (!(v_any_slices_ContainsFuncint_int__gravity_CheckFilter_1 p0)) 2]
/-- The error of a filter. -/
def v_filerr (p0 : List Int) : Int := cond (v_fw0 p0 != 0) (v_fw0 p0) (s_gravity_unless (decide (v_fsum p0 > 0)) 11)
theorem tx_sized {x : Int} : s_gravity_isSized x 100000 = true ↔ -100000 ≤ x ∧ x ≤ 100000 := by
  unfold s_gravity_isSized
  rw [show IntKind.i64.wrap (0 - 100000) = -100000 from rfl]
  exact tx_within
theorem tx_fw {p0 : List Int} (h : v_fw0 p0 = 0) : v_fw p0 := by
  obtain ⟨h1, h⟩ := v_first0 h
  obtain ⟨h2, h⟩ := v_first0 h
  obtain ⟨h3, _⟩ := v_first0 h
  have g1 := of_decide_eq_true (tx_unless0' (by decide) h1)
  have g2 := of_decide_eq_true (tx_unless0' (by decide) h2)
  have g3 := tx_unless0' (by decide) h3
  refine ⟨by omega, by omega, fun x hx => ?_⟩
  have : p0.any s_gravity_CheckFilter_1 = false := by simpa [v_any_slices_ContainsFuncint_int__gravity_CheckFilter_1] using g3
  have := List.any_eq_false.1 this x hx
  exact tx_sized.1 (by simpa [s_gravity_CheckFilter_1] using this)
/-- A valid filter. -/
structure v_fok (f : List Int) : Prop extends v_fw f where
  pos : 0 < v_fsum f
theorem tx_fok {p0 : List Int} (h : v_filerr p0 = 0) : v_fok p0 := by
  unfold v_filerr at h
  rcases int0 (v_fw0 p0) with ⟨b1, b2, b3⟩ | ⟨b1, b2, b3⟩
  · rw [b2] at h
    exact ⟨tx_fw b1, of_decide_eq_true (tx_unless0' (by decide) h)⟩
  · rw [b2] at h; exact absurd h b1
abbrev t_gravity_CheckFilter (p0 : List Int) : Int := v_filerr p0
abbrev qre_gravity_CheckFilter (p0 : List Int) : List Prop := [lenOk p0]
theorem pp_gravity_CheckFilter (p0 : List Int) (hq : ∀ p ∈ qre_gravity_CheckFilter p0, p) : ∀ p ∈ pre_gravity_CheckFilter p0, p := by
  simp only [pre_gravity_CheckFilter, List.forall_mem_cons]
  exact ⟨(conj_of hq).1, fun h => tx_fw (bne0' h), by simp⟩
theorem tt_gravity_CheckFilter (p0 : List Int) (_ : ∀ p ∈ qre_gravity_CheckFilter p0, p) : s_gravity_CheckFilter p0 = t_gravity_CheckFilter p0 := rfl

abbrev con_gravity_CheckFilter : Con := ⟨P_gravity_CheckFilter, R_gravity_CheckFilter, fun x => qre_gravity_CheckFilter x, fun x => t_gravity_CheckFilter x⟩
theorem ok_gravity_CheckFilter : ConOk Tryd.prog 75 con_gravity_CheckFilter := ⟨k_gravity_CheckFilter, fun x hx => ret_tf (ps := P_gravity_CheckFilter) (rs := R_gravity_CheckFilter) (x := x) (y := t_gravity_CheckFilter x) e_gravity_CheckFilter hC_gravity_CheckFilter (tf_of (w_gravity_CheckFilter_eq x (fun z => z = t_gravity_CheckFilter x)) (d_gravity_CheckFilter x (fun z => z = t_gravity_CheckFilter x) (pp_gravity_CheckFilter x hx) (tt_gravity_CheckFilter x hx)))⟩
/- gravity_SumOf -/
def C_gravity_SumOf : Cons := [(75, [], con_gravity_CheckFilter), (116, [], con_gravity_sum)]
theorem hC_gravity_SumOf : ConsOk Tryd.prog C_gravity_SumOf := ConsOk.cons ok_gravity_CheckFilter <| ConsOk.cons ok_gravity_sum <| ConsOk.nil
def w_gravity_SumOf (p0 : (List Int)) (K : (Int × Int) → Prop) : Prop :=
  ((lenOk p0) ∧
  (((((v_filerr p0) != (0 : Int)) = true) →
  (K ((0 : Int), (v_filerr p0)))) ∧
  ((((v_filerr p0) != (0 : Int)) = false) →
  ((v_fw p0) ∧
    (K ((v_fsum p0), (0 : Int)))))))
set_option maxHeartbeats 4000000 in
theorem w_gravity_SumOf_eq (p0 : (List Int)) (K : (Int × Int) → Prop) : tfn F_gravity_SumOf A_gravity_SumOf C_gravity_SumOf P_gravity_SumOf R_gravity_SumOf p0 K = w_gravity_SumOf p0 K := by kernel_rfl
def s_gravity_SumOf (p0 : (List Int)) : (Int × Int) :=
  (cond ((v_filerr p0) != (0 : Int)) ((0 : Int), (v_filerr p0))
    ((v_fsum p0), (0 : Int)))
abbrev pre_gravity_SumOf (p0 : (List Int)) : List Prop := [(lenOk p0),
    ((((v_filerr p0) != (0 : Int)) = false) → (v_fw p0))]
set_option maxHeartbeats 4000000 in
theorem d_gravity_SumOf (p0 : (List Int)) (K : (Int × Int) → Prop) (hp : ∀ p ∈ pre_gravity_SumOf p0, p) (h : K (s_gravity_SumOf p0)) : w_gravity_SumOf p0 K := by
  unfold w_gravity_SumOf
  unfold s_gravity_SumOf at h
  obtain ⟨hp0, hp1, _⟩ := conj_of hp
  exact ⟨(hp0), (br' h (fun e0 h => h)
    (fun e0 h => ⟨(hp1 e0), h⟩))⟩
abbrev con_gravity_SumOf : Con := ⟨P_gravity_SumOf, R_gravity_SumOf, fun x => pre_gravity_SumOf x, fun x => s_gravity_SumOf x⟩
theorem ok_gravity_SumOf : ConOk Tryd.prog 73 con_gravity_SumOf := ⟨k_gravity_SumOf, fun x hx => ret_tf (ps := P_gravity_SumOf) (rs := R_gravity_SumOf) (x := x) (y := s_gravity_SumOf x) e_gravity_SumOf hC_gravity_SumOf (tf_of (w_gravity_SumOf_eq x (fun z => z = s_gravity_SumOf x)) (d_gravity_SumOf x (fun z => z = s_gravity_SumOf x) hx rfl))⟩
/- base_Mod -/
def C_base_Mod : Cons := []
theorem hC_base_Mod : ConsOk Tryd.prog C_base_Mod := ConsOk.nil
def w_base_Mod (p0 : Int) (p1 : Int) (K : Int → Prop) : Prop :=
  ((p1 ≠ (0 : Int)) ∧
  ((((decide ((Int.tmod p0 p1) < (0 : Int))) = true) →
  (K (Go.IntKind.wrap .i64 ((Int.tmod p0 p1) + p1)))) ∧
  (((decide ((Int.tmod p0 p1) < (0 : Int))) = false) →
  (K (Int.tmod p0 p1)))))
set_option maxHeartbeats 4000000 in
theorem w_base_Mod_eq (p0 : Int) (p1 : Int) (K : Int → Prop) : tfn F_base_Mod A_base_Mod C_base_Mod P_base_Mod R_base_Mod (p0, p1) K = w_base_Mod p0 p1 K := by kernel_rfl
def s_base_Mod (p0 : Int) (p1 : Int) : Int :=
  (cond (decide ((Int.tmod p0 p1) < (0 : Int))) (Go.IntKind.wrap .i64 ((Int.tmod p0 p1) + p1))
    (Int.tmod p0 p1))
abbrev pre_base_Mod (p0 : Int) (p1 : Int) : List Prop := [(p1 ≠ (0 : Int))]
set_option maxHeartbeats 4000000 in
theorem d_base_Mod (p0 : Int) (p1 : Int) (K : Int → Prop) (hp : ∀ p ∈ pre_base_Mod p0 p1, p) (h : K (s_base_Mod p0 p1)) : w_base_Mod p0 p1 K := by
  unfold w_base_Mod
  unfold s_base_Mod at h
  obtain ⟨hp0, _⟩ := conj_of hp
  exact ⟨(hp0), (br' h (fun e0 h => h)
    (fun e0 h => h))⟩
abbrev t_base_Mod (p0 p1 : Int) : Int := p0 % p1
abbrev qre_base_Mod (p0 p1 : Int) : List Prop := [0 < p1 ∧ p1 ≤ 1000000000000]
theorem pp_base_Mod (p0 p1 : Int) (hq : ∀ p ∈ qre_base_Mod p0 p1, p) : ∀ p ∈ pre_base_Mod p0 p1, p := by
  have h := (conj_of hq).1
  simp only [pre_base_Mod, List.forall_mem_cons]
  exact ⟨by omega, by simp⟩
theorem tt_base_Mod (p0 p1 : Int) (hq : ∀ p ∈ qre_base_Mod p0 p1, p) : s_base_Mod p0 p1 = t_base_Mod p0 p1 := by
  have h := (conj_of hq).1
  unfold s_base_Mod t_base_Mod
  have h1 := v_tmod_lt (a := p0) (b := p1) (by omega)
  have h2 := Int.mul_tdiv_add_tmod p0 p1
  cases c : decide (p0.tmod p1 < 0)
  · have := of_decide_eq_false c
    simp only [cond_false]
    exact ((Int.ediv_emod_unique (a := p0) (b := p1) (q := p0.tdiv p1) (r := p0.tmod p1) h.1).2 ⟨by omega, by omega, by omega⟩).2.symm
  · have := of_decide_eq_true c
    simp only [cond_true]
    rw [wrap_id (by omega) (by omega)]
    have e : p1 * (p0.tdiv p1 - 1) = p1 * p0.tdiv p1 - p1 := by rw [Int.mul_sub, Int.mul_one]
    exact ((Int.ediv_emod_unique (a := p0) (b := p1) (q := p0.tdiv p1 - 1) (r := p0.tmod p1 + p1) h.1).2 ⟨by omega, by omega, by omega⟩).2.symm

abbrev con_base_Mod : Con := ⟨P_base_Mod, R_base_Mod, fun x => qre_base_Mod x.1 x.2, fun x => t_base_Mod x.1 x.2⟩
theorem ok_base_Mod : ConOk Tryd.prog 61 con_base_Mod := ⟨k_base_Mod, fun x hx => ret_tf (ps := P_base_Mod) (rs := R_base_Mod) (x := x) (y := t_base_Mod x.1 x.2) e_base_Mod hC_base_Mod (tf_of (w_base_Mod_eq x.1 x.2 (fun z => z = t_base_Mod x.1 x.2)) (d_base_Mod x.1 x.2 (fun z => z = t_base_Mod x.1 x.2) (pp_base_Mod x.1 x.2 hx) (tt_base_Mod x.1 x.2 hx)))⟩
/- base_Size -/
def C_base_Size : Cons := []
theorem hC_base_Size : ConsOk Tryd.prog C_base_Size := ConsOk.nil
def w_base_Size (p0 : Int) (K : Int → Prop) : Prop :=
  (K (max p0 (Go.IntKind.wrap .i64 ((0 : Int) - p0))))
set_option maxHeartbeats 4000000 in
theorem w_base_Size_eq (p0 : Int) (K : Int → Prop) : tfn F_base_Size A_base_Size C_base_Size P_base_Size R_base_Size p0 K = w_base_Size p0 K := by kernel_rfl
def s_base_Size (p0 : Int) : Int :=
  (max p0 (Go.IntKind.wrap .i64 ((0 : Int) - p0)))
abbrev pre_base_Size (p0 : Int) : List Prop := []
set_option maxHeartbeats 4000000 in
theorem d_base_Size (p0 : Int) (K : Int → Prop) (hp : ∀ p ∈ pre_base_Size p0, p) (h : K (s_base_Size p0)) : w_base_Size p0 K := by
  unfold w_base_Size
  unfold s_base_Size at h
  exact h
abbrev con_base_Size : Con := ⟨P_base_Size, R_base_Size, fun x => pre_base_Size x, fun x => s_base_Size x⟩
theorem ok_base_Size : ConOk Tryd.prog 65 con_base_Size := ⟨k_base_Size, fun x hx => ret_tf (ps := P_base_Size) (rs := R_base_Size) (x := x) (y := s_base_Size x) e_base_Size hC_base_Size (tf_of (w_base_Size_eq x (fun z => z = s_base_Size x)) (d_base_Size x (fun z => z = s_base_Size x) hx rfl))⟩
/- ref05_at -/
def C_ref05_at : Cons := [(65, [], con_base_Size)]
theorem hC_ref05_at : ConsOk Tryd.prog C_ref05_at := ConsOk.cons ok_base_Size <| ConsOk.nil
def w_ref05_at (p0 : (List Int)) (p1 : Int) (K : Int → Prop) : Prop :=
  ((((decide ((s_base_Size p1) < (((List.length p0) : Nat) : Int))) = true) →
  (((0 : Int) ≤ (s_base_Size p1)) ∧
    (((s_base_Size p1) < (((List.length p0) : Nat) : Int)) ∧
    (K (List.getD p0 (Int.toNat (s_base_Size p1)) (0 : Int)))))) ∧
  (((decide ((s_base_Size p1) < (((List.length p0) : Nat) : Int))) = false) →
  (K (0 : Int))))
set_option maxHeartbeats 4000000 in
theorem w_ref05_at_eq (p0 : (List Int)) (p1 : Int) (K : Int → Prop) : tfn F_ref05_at A_ref05_at C_ref05_at P_ref05_at R_ref05_at (p0, p1) K = w_ref05_at p0 p1 K := by kernel_rfl
def s_ref05_at (p0 : (List Int)) (p1 : Int) : Int :=
  (cond (decide ((s_base_Size p1) < (((List.length p0) : Nat) : Int))) (List.getD p0 (Int.toNat (s_base_Size p1)) (0 : Int))
    (0 : Int))
abbrev pre_ref05_at (p0 : (List Int)) (p1 : Int) : List Prop := [(((decide ((s_base_Size p1) < (((List.length p0) : Nat) : Int))) = true) → ((0 : Int) ≤ (s_base_Size p1))),
    (((decide ((s_base_Size p1) < (((List.length p0) : Nat) : Int))) = true) → ((s_base_Size p1) < (((List.length p0) : Nat) : Int)))]
set_option maxHeartbeats 4000000 in
theorem d_ref05_at (p0 : (List Int)) (p1 : Int) (K : Int → Prop) (hp : ∀ p ∈ pre_ref05_at p0 p1, p) (h : K (s_ref05_at p0 p1)) : w_ref05_at p0 p1 K := by
  unfold w_ref05_at
  unfold s_ref05_at at h
  obtain ⟨hp0, hp1, _⟩ := conj_of hp
  exact (br' h (fun e0 h => ⟨(hp0 e0), ⟨(hp1 e0), h⟩⟩)
    (fun e0 h => h))
theorem tx_size {x : Int} (h : v_fit x) : s_base_Size x = x.natAbs := by
  unfold s_base_Size
  unfold v_fit at h
  rw [wrap_id (by omega) (by omega)]; omega
abbrev t_ref05_at (p0 : List Int) (p1 : Int) : Int := v_at p0 p1
abbrev qre_ref05_at (p0 : List Int) (p1 : Int) : List Prop := [v_fit p1]
theorem pp_ref05_at (p0 : List Int) (p1 : Int) (hq : ∀ p ∈ qre_ref05_at p0 p1, p) : ∀ p ∈ pre_ref05_at p0 p1, p := by
  have h := (conj_of hq).1
  have e := tx_size h
  simp only [pre_ref05_at, List.forall_mem_cons, e]
  exact ⟨fun _ => by omega, fun h => of_decide_eq_true h, by simp⟩
theorem tt_ref05_at (p0 : List Int) (p1 : Int) (hq : ∀ p ∈ qre_ref05_at p0 p1, p) : s_ref05_at p0 p1 = t_ref05_at p0 p1 := by
  have e := tx_size (conj_of hq).1
  unfold s_ref05_at t_ref05_at v_at
  rw [e, Int.toNat_natCast]
  by_cases c : p1.natAbs < p0.length
  · rw [decide_eq_true (show (p1.natAbs : Int) < (p0.length : Nat) by omega)]; rfl
  · rw [decide_eq_false (show ¬ (p1.natAbs : Int) < (p0.length : Nat) by omega), gd_out _ (by omega)]; rfl

abbrev con_ref05_at : Con := ⟨P_ref05_at, R_ref05_at, fun x => qre_ref05_at x.1 x.2, fun x => t_ref05_at x.1 x.2⟩
theorem ok_ref05_at : ConOk Tryd.prog 96 con_ref05_at := ⟨k_ref05_at, fun x hx => ret_tf (ps := P_ref05_at) (rs := R_ref05_at) (x := x) (y := t_ref05_at x.1 x.2) e_ref05_at hC_ref05_at (tf_of (w_ref05_at_eq x.1 x.2 (fun z => z = t_ref05_at x.1 x.2)) (d_ref05_at x.1 x.2 (fun z => z = t_ref05_at x.1 x.2) (pp_ref05_at x.1 x.2 hx) (tt_ref05_at x.1 x.2 hx)))⟩
/- ref05_Gain -/
def C_ref05_Gain : Cons := [(61, [], con_base_Mod), (96, [], con_ref05_at)]
theorem hC_ref05_Gain : ConsOk Tryd.prog C_ref05_Gain := ConsOk.cons ok_base_Mod <| ConsOk.cons ok_ref05_at <| ConsOk.nil
def w_ref05_Gain (p0 : (List Int)) (p1 : Int) (K : Int → Prop) : Prop :=
  (∃ n0, (loopP (fun (y1 : (Int × Int)) k2 =>
    ((((decide (y1.1 < (((List.length p0) : Nat) : Int))) = true) →
    ((((0 : Int) < (4 : Int)) ∧
      ((4 : Int) ≤ (1000000000000 : Int))) ∧
      (((0 : Int) ≤ ((Go.IntKind.wrap .i64 (y1.1 * p1)) % (4 : Int))) ∧
      ((((Go.IntKind.wrap .i64 (y1.1 * p1)) % (4 : Int)) < (((List.length ((1 : Int) :: ((0 : Int) :: ((-1 : Int) :: ((0 : Int) :: ([] : List Int)))))) : Nat) : Int)) ∧
      ((v_fit y1.1) ∧
      (k2 ((Go.IntKind.wrap .i64 (y1.1 + (1 : Int))), (Go.IntKind.wrap .i64 (y1.2 + (Go.IntKind.wrap .i64 ((List.getD ((1 : Int) :: ((0 : Int) :: ((-1 : Int) :: ((0 : Int) :: ([] : List Int))))) (Int.toNat ((Go.IntKind.wrap .i64 (y1.1 * p1)) % (4 : Int))) (0 : Int)) * (v_at p0 y1.1)))))))))))) ∧
    (((decide (y1.1 < (((List.length p0) : Nat) : Int))) = false) →
    (K y1.2)))) n0 ((Go.IntKind.wrap .i64 ((Go.IntKind.wrap .i64 ((0 : Int) - (((List.length p0) : Nat) : Int))) + (1 : Int))), (0 : Int))))
set_option maxHeartbeats 4000000 in
theorem w_ref05_Gain_eq (p0 : (List Int)) (p1 : Int) (K : Int → Prop) : tfn F_ref05_Gain A_ref05_Gain C_ref05_Gain P_ref05_Gain R_ref05_Gain (p0, p1) K = w_ref05_Gain p0 p1 K := by kernel_rfl
def st_ref05_Gain_0 (p0 : (List Int)) (p1 : Int) (y0 : (Int × Int)) : (Int × Int) ⊕ Int :=
  (cond (decide (y0.1 < (((List.length p0) : Nat) : Int))) (Sum.inl ((Go.IntKind.wrap .i64 (y0.1 + (1 : Int))), (Go.IntKind.wrap .i64 (y0.2 + (Go.IntKind.wrap .i64 ((List.getD ((1 : Int) :: ((0 : Int) :: ((-1 : Int) :: ((0 : Int) :: ([] : List Int))))) (Int.toNat ((Go.IntKind.wrap .i64 (y0.1 * p1)) % (4 : Int))) (0 : Int)) * (v_at p0 y0.1)))))))
    (Sum.inr y0.2))
abbrev sp_ref05_Gain_0 (p0 : (List Int)) (p1 : Int) (y0 : (Int × Int)) : List Prop := [(((decide (y0.1 < (((List.length p0) : Nat) : Int))) = true) → ((0 : Int) ≤ ((Go.IntKind.wrap .i64 (y0.1 * p1)) % (4 : Int)))),
    (((decide (y0.1 < (((List.length p0) : Nat) : Int))) = true) → (((Go.IntKind.wrap .i64 (y0.1 * p1)) % (4 : Int)) < (((List.length ((1 : Int) :: ((0 : Int) :: ((-1 : Int) :: ((0 : Int) :: ([] : List Int)))))) : Nat) : Int))),
    (((decide (y0.1 < (((List.length p0) : Nat) : Int))) = true) → (v_fit y0.1))]
def s_ref05_Gain (p0 : (List Int)) (p1 : Int) : Int :=
  (lpv (0 : Int) (st_ref05_Gain_0 p0 p1) ((Go.IntKind.wrap .i64 ((Go.IntKind.wrap .i64 ((0 : Int) - (((List.length p0) : Nat) : Int))) + (1 : Int))), (0 : Int)))
abbrev pre_ref05_Gain (p0 : (List Int)) (p1 : Int) : List Prop := [(OkL (st_ref05_Gain_0 p0 p1) (sp_ref05_Gain_0 p0 p1) ((Go.IntKind.wrap .i64 ((Go.IntKind.wrap .i64 ((0 : Int) - (((List.length p0) : Nat) : Int))) + (1 : Int))), (0 : Int)))]
set_option maxHeartbeats 4000000 in
theorem d_ref05_Gain (p0 : (List Int)) (p1 : Int) (K : Int → Prop) (hp : ∀ p ∈ pre_ref05_Gain p0 p1, p) (h : K (s_ref05_Gain p0 p1)) : w_ref05_Gain p0 p1 K := by
  unfold w_ref05_Gain
  unfold s_ref05_Gain at h
  obtain ⟨hp0, _⟩ := conj_of hp
  exact (loop_gen (hp0) h (fun y0 k0 hp h => by
  unfold st_ref05_Gain_0 at h; obtain ⟨hp0, hp1, hp2, _⟩ := conj_of hp
  exact (br' h (fun e1 h => ⟨(of_decide_eq_true rfl), ⟨(hp0 e1), ⟨(hp1 e1), ⟨(hp2 e1), h⟩⟩⟩⟩)
    (fun e1 h => h))))
/-- The cosine of whole quarters. -/
def v_cos (x : Int) : Int := [1, 0, -1, 0].getD (x % 4).toNat 0
theorem v_cos_in (x : Int) : (v_cos x = 1 ∨ v_cos x = 0 ∨ v_cos x = -1) := by
  unfold v_cos
  have h1 := Int.emod_nonneg x (show (4 : Int) ≠ 0 by decide)
  have h2 := Int.emod_lt_of_pos x (show (0 : Int) < 4 by decide)
  generalize x % 4 = y at *
  have : y = 0 ∨ y = 1 ∨ y = 2 ∨ y = 3 := by omega
  rcases this with rfl | rfl | rfl | rfl <;> decide
/-- The gain of a filter at a quarter. -/
def v_gain (f : List Int) (q : Int) : Int := v_sums (fun j => v_cos (((j : Int) - ((f.length : Int) - 1)) * q) * v_at f ((j : Int) - ((f.length : Int) - 1))) 0 (2 * f.length - 1)
theorem v_gain0 (f : List Int) : v_gain f 0 = v_fsum f := by
  unfold v_gain v_fsum
  refine v_sums_congr _ _ fun k _ _ => ?_
  rw [Int.mul_zero]
  show 1 * _ = _
  rw [Int.one_mul]
theorem v_cos_at {f : List Int} (h : v_fw f) (x k : Int) : -100000 ≤ v_cos x * v_at f k ∧ v_cos x * v_at f k ≤ 100000 := by
  have := h.at k
  rcases v_cos_in x with e | e | e <;> rw [e] <;> omega
theorem l_ref05_Gain (p0 : List Int) (p1 : Int) (h : v_fw p0) (hq : 0 ≤ p1 ∧ p1 ≤ 3) : OkL (st_ref05_Gain_0 p0 p1) (sp_ref05_Gain_0 p0 p1) ((Go.IntKind.wrap .i64 ((Go.IntKind.wrap .i64 ((0 : Int) - (((List.length p0) : Nat) : Int))) + (1 : Int))), (0 : Int)) ∧ s_ref05_Gain p0 p1 = v_gain p0 p1 := by
  have h1 := h.one
  have h2 := h.nine
  unfold s_ref05_Gain
  rw [wrap_id (show -9223372036854775808 ≤ (0 : Int) - ((p0.length : Nat) : Int) by omega) (by omega), wrap_id (show -9223372036854775808 ≤ (0 : Int) - ((p0.length : Nat) : Int) + 1 by omega) (by omega), show (0 : Int) - ((p0.length : Nat) : Int) + 1 = ((0 : Nat) : Int) - ((p0.length : Int) - 1) by omega]
  refine for_is (fun i t => (i - ((p0.length : Int) - 1), t)) 0 (2 * p0.length - 1) (fun j t => t = v_sums (fun j => v_cos (((j : Int) - ((p0.length : Int) - 1)) * p1) * v_at p0 ((j : Int) - ((p0.length : Int) - 1))) 0 j) (fun _ _ => v_gain p0 p1) (by omega) (by omega) ?_ ?_ 0 rfl
  · intro t ht
    have hd : decide (((2 * p0.length - 1 : Nat) : Int) - ((p0.length : Int) - 1) < (p0.length : Nat)) = false := decide_eq_false (by omega)
    refine ⟨by simp only [sp_ref05_Gain_0, List.forall_mem_cons, hd]; simp, ?_⟩
    simp only [st_ref05_Gain_0, hd, cond_false]
    rw [ht]; rfl
  · intro j t _ hj ht
    have hd : decide ((j : Int) - ((p0.length : Int) - 1) < (p0.length : Nat)) = true := decide_eq_true (by omega)
    have hp : -100 ≤ ((j : Int) - ((p0.length : Int) - 1)) * p1 ∧ ((j : Int) - ((p0.length : Int) - 1)) * p1 ≤ 100 := by
      have : p1 = 0 ∨ p1 = 1 ∨ p1 = 2 ∨ p1 = 3 := by omega
      rcases this with rfl | rfl | rfl | rfl <;> omega
    have hw : IntKind.i64.wrap (((j : Int) - ((p0.length : Int) - 1)) * p1) = ((j : Int) - ((p0.length : Int) - 1)) * p1 := wrap_id (by omega) (by omega)
    have m1 := Int.emod_nonneg (((j : Int) - ((p0.length : Int) - 1)) * p1) (show (4 : Int) ≠ 0 by decide)
    have m2 := Int.emod_lt_of_pos (((j : Int) - ((p0.length : Int) - 1)) * p1) (show (0 : Int) < 4 by decide)
    refine ⟨?_, .inl ⟨_, ?_, rfl, rfl⟩⟩
    · simp only [sp_ref05_Gain_0, List.forall_mem_cons, hw]
      exact ⟨fun _ => m1, fun _ => by simp only [List.length_cons, List.length_nil]; omega, fun _ => by unfold v_fit; omega, by simp⟩
    · have hb := v_sums_in (f := fun j => v_cos (((j : Int) - ((p0.length : Int) - 1)) * p1) * v_at p0 ((j : Int) - ((p0.length : Int) - 1))) (m := 100000) j 0 (fun k _ _ => v_cos_at h _ _)
      have ha := v_cos_at h (((j : Int) - ((p0.length : Int) - 1)) * p1) ((j : Int) - ((p0.length : Int) - 1))
      simp only [st_ref05_Gain_0, hd, cond_true, hw]
      rw [show (List.getD [1, 0, -1, 0] (((j : Int) - ((p0.length : Int) - 1)) * p1 % 4).toNat 0) = v_cos (((j : Int) - ((p0.length : Int) - 1)) * p1) from rfl, wrap_id (show -9223372036854775808 ≤ v_cos (((j : Int) - ((p0.length : Int) - 1)) * p1) * v_at p0 ((j : Int) - ((p0.length : Int) - 1)) by omega) (by omega), ht, v_sums_last, Nat.zero_add, wrap_id (by omega) (by omega), wrap_id (by omega) (by omega), show (j : Int) - ((p0.length : Int) - 1) + 1 = ((j + 1 : Nat) : Int) - ((p0.length : Int) - 1) by omega]
abbrev t_ref05_Gain (p0 : List Int) (p1 : Int) : Int := v_gain p0 p1
abbrev qre_ref05_Gain (p0 : List Int) (p1 : Int) : List Prop := [v_fw p0, 0 ≤ p1 ∧ p1 ≤ 3]
theorem pp_ref05_Gain (p0 : List Int) (p1 : Int) (hq : ∀ p ∈ qre_ref05_Gain p0 p1, p) : ∀ p ∈ pre_ref05_Gain p0 p1, p := by
  simp only [pre_ref05_Gain, List.forall_mem_cons]
  exact ⟨(l_ref05_Gain p0 p1 (conj_of hq).1 (conj_of hq).2.1).1, by simp⟩
theorem tt_ref05_Gain (p0 : List Int) (p1 : Int) (hq : ∀ p ∈ qre_ref05_Gain p0 p1, p) : s_ref05_Gain p0 p1 = t_ref05_Gain p0 p1 := (l_ref05_Gain p0 p1 (conj_of hq).1 (conj_of hq).2.1).2

abbrev con_ref05_Gain : Con := ⟨P_ref05_Gain, R_ref05_Gain, fun x => qre_ref05_Gain x.1 x.2, fun x => t_ref05_Gain x.1 x.2⟩
theorem ok_ref05_Gain : ConOk Tryd.prog 77 con_ref05_Gain := ⟨k_ref05_Gain, fun x hx => ret_tf (ps := P_ref05_Gain) (rs := R_ref05_Gain) (x := x) (y := t_ref05_Gain x.1 x.2) e_ref05_Gain hC_ref05_Gain (tf_of (w_ref05_Gain_eq x.1 x.2 (fun z => z = t_ref05_Gain x.1 x.2)) (d_ref05_Gain x.1 x.2 (fun z => z = t_ref05_Gain x.1 x.2) (pp_ref05_Gain x.1 x.2 hx) (tt_ref05_Gain x.1 x.2 hx)))⟩
/- gravity_GainAt -/
def C_gravity_GainAt : Cons := [(75, [], con_gravity_CheckFilter), (94, [], con_gravity_within), (89, [], con_gravity_unless), (88, [], con_gravity_first)]
theorem hC_gravity_GainAt : ConsOk Tryd.prog C_gravity_GainAt := ConsOk.cons ok_gravity_CheckFilter <| ConsOk.cons ok_gravity_within <| ConsOk.cons ok_gravity_unless <| ConsOk.cons ok_gravity_first <| ConsOk.nil
def w_gravity_GainAt (p0 : (List Int)) (p1 : Int) (K : (Int × Int) → Prop) : Prop :=
  ((lenOk p0) ∧
  ((lenOk ((v_filerr p0) :: ((s_gravity_unless (s_gravity_within p1 (0 : Int) (3 : Int)) (2 : Int)) :: ([] : List Int)))) ∧
  (((((v_first ((v_filerr p0) :: ((s_gravity_unless (s_gravity_within p1 (0 : Int) (3 : Int)) (2 : Int)) :: ([] : List Int)))) != (0 : Int)) = true) →
  (K ((0 : Int), (v_first ((v_filerr p0) :: ((s_gravity_unless (s_gravity_within p1 (0 : Int) (3 : Int)) (2 : Int)) :: ([] : List Int))))))) ∧
  ((((v_first ((v_filerr p0) :: ((s_gravity_unless (s_gravity_within p1 (0 : Int) (3 : Int)) (2 : Int)) :: ([] : List Int)))) != (0 : Int)) = false) →
  (((0 : Int) < (((List.length p0) : Nat) : Int)) ∧
    (((0 : Int) ≤ (1 : Int)) ∧
    (((1 : Int) ≤ (((List.length p0) : Nat) : Int)) ∧
    (∃ n0, (loopP (fun (y1 : (Int × Int)) k2 =>
      ((((decide (y1.1 < (((List.length (List.drop (Int.toNat (1 : Int)) p0)) : Nat) : Int))) = true) →
      (((0 : Int) ≤ y1.1) ∧
        ((y1.1 < (((List.length (List.drop (Int.toNat (1 : Int)) p0)) : Nat) : Int)) ∧
        (((0 : Int) ≤ (Int.tmod (Go.IntKind.wrap .i64 ((Go.IntKind.wrap .i64 (y1.1 + (1 : Int))) * p1)) (4 : Int))) ∧
        (((Int.tmod (Go.IntKind.wrap .i64 ((Go.IntKind.wrap .i64 (y1.1 + (1 : Int))) * p1)) (4 : Int)) < (4 : Int)) ∧
        (k2 ((Go.IntKind.wrap .i64 (y1.1 + (1 : Int))), (Go.IntKind.wrap .i64 (y1.2 + (Go.IntKind.wrap .i64 ((Go.IntKind.wrap .i64 ((2 : Int) * (List.getD (List.drop (Int.toNat (1 : Int)) p0) (Int.toNat y1.1) (0 : Int)))) * (List.getD ((1 : Int) :: ((0 : Int) :: ((-1 : Int) :: ((0 : Int) :: ([] : List Int))))) (Int.toNat (Int.tmod (Go.IntKind.wrap .i64 ((Go.IntKind.wrap .i64 (y1.1 + (1 : Int))) * p1)) (4 : Int))) (0 : Int))))))))))))) ∧
      (((decide (y1.1 < (((List.length (List.drop (Int.toNat (1 : Int)) p0)) : Nat) : Int))) = false) →
      (K (y1.2, (0 : Int)))))) n0 ((0 : Int), (List.getD p0 (Int.toNat (0 : Int)) (0 : Int))))))))))))
set_option maxHeartbeats 4000000 in
theorem w_gravity_GainAt_eq (p0 : (List Int)) (p1 : Int) (K : (Int × Int) → Prop) : tfn F_gravity_GainAt A_gravity_GainAt C_gravity_GainAt P_gravity_GainAt R_gravity_GainAt (p0, p1) K = w_gravity_GainAt p0 p1 K := by kernel_rfl
def st_gravity_GainAt_0 (p0 : (List Int)) (p1 : Int) (y1 : (Int × Int)) : (Int × Int) ⊕ (Int × Int) :=
  (cond (decide (y1.1 < (((List.length (List.drop (Int.toNat (1 : Int)) p0)) : Nat) : Int))) (Sum.inl ((Go.IntKind.wrap .i64 (y1.1 + (1 : Int))), (Go.IntKind.wrap .i64 (y1.2 + (Go.IntKind.wrap .i64 ((Go.IntKind.wrap .i64 ((2 : Int) * (List.getD (List.drop (Int.toNat (1 : Int)) p0) (Int.toNat y1.1) (0 : Int)))) * (List.getD ((1 : Int) :: ((0 : Int) :: ((-1 : Int) :: ((0 : Int) :: ([] : List Int))))) (Int.toNat (Int.tmod (Go.IntKind.wrap .i64 ((Go.IntKind.wrap .i64 (y1.1 + (1 : Int))) * p1)) (4 : Int))) (0 : Int))))))))
    (Sum.inr (y1.2, (0 : Int))))
abbrev sp_gravity_GainAt_0 (p0 : (List Int)) (p1 : Int) (y1 : (Int × Int)) : List Prop := [(((decide (y1.1 < (((List.length (List.drop (Int.toNat (1 : Int)) p0)) : Nat) : Int))) = true) → ((0 : Int) ≤ y1.1)),
    (((decide (y1.1 < (((List.length (List.drop (Int.toNat (1 : Int)) p0)) : Nat) : Int))) = true) → (y1.1 < (((List.length (List.drop (Int.toNat (1 : Int)) p0)) : Nat) : Int))),
    (((decide (y1.1 < (((List.length (List.drop (Int.toNat (1 : Int)) p0)) : Nat) : Int))) = true) → ((0 : Int) ≤ (Int.tmod (Go.IntKind.wrap .i64 ((Go.IntKind.wrap .i64 (y1.1 + (1 : Int))) * p1)) (4 : Int)))),
    (((decide (y1.1 < (((List.length (List.drop (Int.toNat (1 : Int)) p0)) : Nat) : Int))) = true) → ((Int.tmod (Go.IntKind.wrap .i64 ((Go.IntKind.wrap .i64 (y1.1 + (1 : Int))) * p1)) (4 : Int)) < (4 : Int)))]
def s_gravity_GainAt (p0 : (List Int)) (p1 : Int) : (Int × Int) :=
  (cond ((v_first ((v_filerr p0) :: ((s_gravity_unless (s_gravity_within p1 (0 : Int) (3 : Int)) (2 : Int)) :: ([] : List Int)))) != (0 : Int)) ((0 : Int), (v_first ((v_filerr p0) :: ((s_gravity_unless (s_gravity_within p1 (0 : Int) (3 : Int)) (2 : Int)) :: ([] : List Int)))))
    (lpv ((0 : Int), (0 : Int)) (st_gravity_GainAt_0 p0 p1) ((0 : Int), (List.getD p0 (Int.toNat (0 : Int)) (0 : Int)))))
abbrev pre_gravity_GainAt (p0 : (List Int)) (p1 : Int) : List Prop := [(lenOk p0),
    ((((v_first ((v_filerr p0) :: ((s_gravity_unless (s_gravity_within p1 (0 : Int) (3 : Int)) (2 : Int)) :: ([] : List Int)))) != (0 : Int)) = false) → ((0 : Int) < (((List.length p0) : Nat) : Int))),
    ((((v_first ((v_filerr p0) :: ((s_gravity_unless (s_gravity_within p1 (0 : Int) (3 : Int)) (2 : Int)) :: ([] : List Int)))) != (0 : Int)) = false) → ((1 : Int) ≤ (((List.length p0) : Nat) : Int))),
    ((((v_first ((v_filerr p0) :: ((s_gravity_unless (s_gravity_within p1 (0 : Int) (3 : Int)) (2 : Int)) :: ([] : List Int)))) != (0 : Int)) = false) → (OkL (st_gravity_GainAt_0 p0 p1) (sp_gravity_GainAt_0 p0 p1) ((0 : Int), (List.getD p0 (Int.toNat (0 : Int)) (0 : Int)))))]
set_option maxHeartbeats 4000000 in
theorem d_gravity_GainAt (p0 : (List Int)) (p1 : Int) (K : (Int × Int) → Prop) (hp : ∀ p ∈ pre_gravity_GainAt p0 p1, p) (h : K (s_gravity_GainAt p0 p1)) : w_gravity_GainAt p0 p1 K := by
  unfold w_gravity_GainAt
  unfold s_gravity_GainAt at h
  obtain ⟨hp0, hp1, hp2, hp3, _⟩ := conj_of hp
  exact ⟨(hp0), ⟨(lenOk_of 2 rfl (by decide)), (br' h (fun e0 h => h)
    (fun e0 h => ⟨(hp1 e0), ⟨(of_decide_eq_true rfl), ⟨(hp2 e0), (loop_gen (hp3 e0) h (fun y1 k1 hp h => by
  unfold st_gravity_GainAt_0 at h; obtain ⟨hp0, hp1, hp2, hp3, _⟩ := conj_of hp
  exact (br' h (fun e2 h => ⟨(hp0 e2), ⟨(hp1 e2), ⟨(hp2 e2), ⟨(hp3 e2), h⟩⟩⟩⟩)
    (fun e2 h => h))))⟩⟩⟩))⟩⟩
theorem v_cos_neg (x : Int) : v_cos (-x) = v_cos x := by
  unfold v_cos
  have h1 := Int.emod_nonneg x (show (4 : Int) ≠ 0 by decide)
  have h2 := Int.emod_lt_of_pos x (show (0 : Int) < 4 by decide)
  have : x % 4 = 0 ∨ x % 4 = 1 ∨ x % 4 = 2 ∨ x % 4 = 3 := by omega
  rcases this with h | h | h | h
  · rw [h, show -x % 4 = 0 by omega]
  · rw [h, show -x % 4 = 3 by omega]; rfl
  · rw [h, show -x % 4 = 2 by omega]
  · rw [h, show -x % 4 = 1 by omega]; rfl
theorem v_at_neg (f : List Int) (k : Int) : v_at f (-k) = v_at f k := by unfold v_at; rw [Int.natAbs_neg]
/-- The sum of what is the same on both sides. -/
theorem v_sym {g : Int → Int} (hg : ∀ x, g (-x) = g x) (n : Nat) : v_sums (fun j => g ((j : Int) - (n : Int))) 0 (2 * n + 1) = g 0 + v_sums (fun k => 2 * g ((k : Int) + 1)) 0 n := by
  rw [show 2 * n + 1 = n + (n + 1) by omega, v_sums_app, v_sums, v_sums_rev _ n 0]
  rw [v_sums_congr (f := fun k => g (((0 + n - 1 - k : Nat) : Int) - (n : Int))) (g := fun k => g ((k : Int) + 1)) n 0 (fun k _ hk => by rw [← hg]; congr 1; omega)]
  rw [show 0 + n + 1 = 0 + (n + 1) by omega, v_sums_shift, v_sums_congr (f := fun k => g (((k + (n + 1) : Nat) : Int) - (n : Int))) (g := fun k => g ((k : Int) + 1)) n 0 (fun k _ _ => by congr 1; omega)]
  rw [v_sums_mul, show ((0 + n : Nat) : Int) - (n : Int) = 0 by omega]; omega
theorem v_gain_sym {f : List Int} (h1 : 1 ≤ f.length) (q : Int) : v_gain f q = f.getD 0 0 + v_sums (fun k => 2 * (v_cos (((k : Int) + 1) * q) * v_at f ((k : Int) + 1))) 0 (f.length - 1) := by
  have := v_sym (g := fun x => v_cos (x * q) * v_at f x) (fun x => by rw [Int.neg_mul, v_cos_neg, v_at_neg]) (f.length - 1)
  rw [show 2 * (f.length - 1) + 1 = 2 * f.length - 1 by omega] at this
  unfold v_gain
  rw [show ((f.length : Int) - 1) = ((f.length - 1 : Nat) : Int) by omega]
  refine this.trans ?_
  rw [Int.zero_mul]
  show 1 * v_at f 0 + _ = _
  rw [Int.one_mul]; rfl
theorem l_gravity_GainAt (p0 : List Int) (p1 : Int) (h : v_fw p0) (hq : 0 ≤ p1 ∧ p1 ≤ 3) : OkL (st_gravity_GainAt_0 p0 p1) (sp_gravity_GainAt_0 p0 p1) (0, p0.getD 0 0) ∧ lpv (0, 0) (st_gravity_GainAt_0 p0 p1) (0, p0.getD 0 0) = (v_gain p0 p1, 0) := by
  have h1 := h.one
  have h9 := h.nine
  have hdl : (List.drop (Int.toNat 1) p0).length = p0.length - 1 := by rw [List.length_drop]; rfl
  refine for_is (fun i t => (i, t)) 0 (p0.length - 1) (fun j t => t = p0.getD 0 0 + v_sums (fun k => 2 * (v_cos (((k : Int) + 1) * p1) * v_at p0 ((k : Int) + 1))) 0 j) (fun _ _ => (v_gain p0 p1, 0)) (by omega) (by omega) ?_ ?_ _ (by simp [v_sums])
  · intro t ht
    have hd : decide (((p0.length - 1 : Nat) : Int) < ((p0.length - 1 : Nat) : Int)) = false := decide_eq_false (by omega)
    refine ⟨by simp only [sp_gravity_GainAt_0, List.forall_mem_cons, hdl, decide_eq_true_eq]; exact ⟨fun _ => by omega, fun _ => by omega, fun h => absurd h (by omega), fun h => absurd h (by omega), by simp⟩, ?_⟩
    simp only [st_gravity_GainAt_0, hdl, hd, cond_false]
    rw [ht, ← v_gain_sym h1]
  · intro j t _ hj ht
    have hd : decide ((j : Int) < ((p0.length - 1 : Nat) : Int)) = true := decide_eq_true (by omega)
    have hw : IntKind.i64.wrap ((j : Int) + 1) = (j : Int) + 1 := wrap_id (by omega) (by omega)
    have hp : 0 ≤ ((j : Int) + 1) * p1 ∧ ((j : Int) + 1) * p1 ≤ 100 := by
      have : p1 = 0 ∨ p1 = 1 ∨ p1 = 2 ∨ p1 = 3 := by omega
      rcases this with rfl | rfl | rfl | rfl <;> omega
    have hw2 : IntKind.i64.wrap (((j : Int) + 1) * p1) = ((j : Int) + 1) * p1 := wrap_id (by omega) (by omega)
    have hm : Int.tmod (((j : Int) + 1) * p1) 4 = ((j : Int) + 1) * p1 % 4 := Int.tmod_eq_emod_of_nonneg hp.1
    have hat : (List.drop (Int.toNat 1) p0).getD j 0 = v_at p0 ((j : Int) + 1) := by
      rw [gd_drop]; unfold v_at; congr 1
      have : Int.toNat 1 = 1 := rfl
      omega
    refine ⟨?_, .inl ⟨_, ?_, rfl, rfl⟩⟩
    · simp only [sp_gravity_GainAt_0, List.forall_mem_cons, hdl, hw, hw2, hm]
      exact ⟨fun _ => by omega, fun _ => by omega, fun _ => by omega, fun _ => by omega, by simp⟩
    · have ha := h.at ((j : Int) + 1)
      have hc := v_cos_at h (((j : Int) + 1) * p1) ((j : Int) + 1)
      have h0 := h.at 0
      have hb := v_sums_in (f := fun k => 2 * (v_cos (((k : Int) + 1) * p1) * v_at p0 ((k : Int) + 1))) (m := 200000) j 0 (fun k _ _ => by have := v_cos_at h (((k : Int) + 1) * p1) ((k : Int) + 1); omega)
      have h0' : p0.getD 0 0 = v_at p0 0 := rfl
      have e1 : 2 * v_at p0 ((j : Int) + 1) * v_cos (((j : Int) + 1) * p1) = 2 * (v_cos (((j : Int) + 1) * p1) * v_at p0 ((j : Int) + 1)) := by rw [Int.mul_assoc, Int.mul_comm (v_at p0 _)]
      simp only [st_gravity_GainAt_0, hdl, hd, cond_true, hw, hw2, hm, Int.toNat_natCast, hat]
      rw [show (List.getD [1, 0, -1, 0] (((j : Int) + 1) * p1 % 4).toNat 0) = v_cos (((j : Int) + 1) * p1) from rfl, wrap_id (n := 2 * v_at p0 ((j : Int) + 1)) (by omega) (by omega), e1, wrap_id (n := 2 * (v_cos (((j : Int) + 1) * p1) * v_at p0 ((j : Int) + 1))) (by omega) (by omega), ht, h0', v_sums_last, Nat.zero_add, wrap_id (by omega) (by omega), Int.add_assoc]
      rfl
/-- The error of a filter and a quarter. -/
def v_gerr (p0 : List Int) (p1 : Int) : Int := v_first [v_filerr p0, s_gravity_unless (s_gravity_within p1 0 3) 2]
theorem tx_gerr {p0 : List Int} {p1 : Int} (h : v_gerr p0 p1 = 0) : v_fok p0 ∧ 0 ≤ p1 ∧ p1 ≤ 3 := by
  obtain ⟨h1, h⟩ := v_first0 h
  obtain ⟨h2, _⟩ := v_first0 h
  have := tx_unless0' (by decide) h2
  exact ⟨tx_fok h1, tx_within.1 this⟩
abbrev t_gravity_GainAt (p0 : List Int) (p1 : Int) : Int × Int := cond (v_gerr p0 p1 != 0) (0, v_gerr p0 p1) (v_gain p0 p1, 0)
abbrev qre_gravity_GainAt (p0 : List Int) (_ : Int) : List Prop := [lenOk p0]
theorem pp_gravity_GainAt (p0 : List Int) (p1 : Int) (hq : ∀ p ∈ qre_gravity_GainAt p0 p1, p) : ∀ p ∈ pre_gravity_GainAt p0 p1, p := by
  simp only [pre_gravity_GainAt, List.forall_mem_cons]
  have key : (v_gerr p0 p1 != 0) = false → v_fok p0 ∧ 0 ≤ p1 ∧ p1 ≤ 3 := fun h => tx_gerr (bne0' h)
  exact ⟨(conj_of hq).1, fun h => by have := (key h).1.one; omega, fun h => by have := (key h).1.one; omega, fun h => (l_gravity_GainAt p0 p1 (key h).1.tov_fw (key h).2).1, by simp⟩
theorem tt_gravity_GainAt (p0 : List Int) (p1 : Int) (_ : ∀ p ∈ qre_gravity_GainAt p0 p1, p) : s_gravity_GainAt p0 p1 = t_gravity_GainAt p0 p1 := by
  show cond (v_gerr p0 p1 != 0) _ _ = _
  unfold t_gravity_GainAt
  cases h : (v_gerr p0 p1 != 0)
  · obtain ⟨k1, k2⟩ := tx_gerr (bne0' h)
    exact (l_gravity_GainAt p0 p1 k1.tov_fw k2).2
  · rfl

abbrev con_gravity_GainAt : Con := ⟨P_gravity_GainAt, R_gravity_GainAt, fun x => qre_gravity_GainAt x.1 x.2, fun x => t_gravity_GainAt x.1 x.2⟩
theorem ok_gravity_GainAt : ConOk Tryd.prog 74 con_gravity_GainAt := ⟨k_gravity_GainAt, fun x hx => ret_tf (ps := P_gravity_GainAt) (rs := R_gravity_GainAt) (x := x) (y := t_gravity_GainAt x.1 x.2) e_gravity_GainAt hC_gravity_GainAt (tf_of (w_gravity_GainAt_eq x.1 x.2 (fun z => z = t_gravity_GainAt x.1 x.2)) (d_gravity_GainAt x.1 x.2 (fun z => z = t_gravity_GainAt x.1 x.2) (pp_gravity_GainAt x.1 x.2 hx) (tt_gravity_GainAt x.1 x.2 hx)))⟩
/- base_CopyRanges -/
def C_base_CopyRanges : Cons := []
theorem hC_base_CopyRanges : ConsOk Tryd.prog C_base_CopyRanges := ConsOk.nil
def w_base_CopyRanges (p0 : (List (Int × Int))) (K : (List (Int × Int)) → Prop) : Prop :=
  (((((List.length ([] : List (Int × Int))) + (List.length p0)) * 16) ≤ 140737488355328) ∧
  (K (([] : List (Int × Int)) ++ p0)))
set_option maxHeartbeats 4000000 in
theorem w_base_CopyRanges_eq (p0 : (List (Int × Int))) (K : (List (Int × Int)) → Prop) : tfn F_base_CopyRanges A_base_CopyRanges C_base_CopyRanges P_base_CopyRanges R_base_CopyRanges p0 K = w_base_CopyRanges p0 K := by kernel_rfl
def s_base_CopyRanges (p0 : (List (Int × Int))) : (List (Int × Int)) :=
  (([] : List (Int × Int)) ++ p0)
abbrev pre_base_CopyRanges (p0 : (List (Int × Int))) : List Prop := [((((List.length ([] : List (Int × Int))) + (List.length p0)) * 16) ≤ 140737488355328)]
set_option maxHeartbeats 4000000 in
theorem d_base_CopyRanges (p0 : (List (Int × Int))) (K : (List (Int × Int)) → Prop) (hp : ∀ p ∈ pre_base_CopyRanges p0, p) (h : K (s_base_CopyRanges p0)) : w_base_CopyRanges p0 K := by
  unfold w_base_CopyRanges
  unfold s_base_CopyRanges at h
  obtain ⟨hp0, _⟩ := conj_of hp
  exact ⟨(hp0), h⟩
abbrev t_base_CopyRanges (p0 : List (Int × Int)) : List (Int × Int) := p0
abbrev qre_base_CopyRanges (p0 : List (Int × Int)) : List Prop := [p0.length ≤ 1000000]
theorem pp_base_CopyRanges (p0 : List (Int × Int)) (hq : ∀ p ∈ qre_base_CopyRanges p0, p) : ∀ p ∈ pre_base_CopyRanges p0, p := by
  simp only [pre_base_CopyRanges, List.forall_mem_cons]
  have := (conj_of hq).1
  exact ⟨by simp; omega, by simp⟩
theorem tt_base_CopyRanges (p0 : List (Int × Int)) (hq : ∀ p ∈ qre_base_CopyRanges p0, p) : s_base_CopyRanges p0 = t_base_CopyRanges p0 := by
  rfl

abbrev con_base_CopyRanges : Con := ⟨P_base_CopyRanges, R_base_CopyRanges, fun x => qre_base_CopyRanges x, fun x => t_base_CopyRanges x⟩
theorem ok_base_CopyRanges : ConOk Tryd.prog 28 con_base_CopyRanges := ⟨k_base_CopyRanges, fun x hx => ret_tf (ps := P_base_CopyRanges) (rs := R_base_CopyRanges) (x := x) (y := t_base_CopyRanges x) e_base_CopyRanges hC_base_CopyRanges (tf_of (w_base_CopyRanges_eq x (fun z => z = t_base_CopyRanges x)) (d_base_CopyRanges x (fun z => z = t_base_CopyRanges x) (pp_base_CopyRanges x hx) (tt_base_CopyRanges x hx)))⟩
/- gravity_rangeErr -/
def C_gravity_rangeErr : Cons := [(93, [], con_gravity_isSized), (89, [], con_gravity_unless), (88, [], con_gravity_first)]
theorem hC_gravity_rangeErr : ConsOk Tryd.prog C_gravity_rangeErr := ConsOk.cons ok_gravity_isSized <| ConsOk.cons ok_gravity_unless <| ConsOk.cons ok_gravity_first <| ConsOk.nil
def w_gravity_rangeErr (p0 : (Int × Int)) (p1 : Int) (K : Int → Prop) : Prop :=
  ((((s_gravity_isSized p0.1 p1) = true) →
  ((s_gravity_isSized p0.1 p1) = (s_gravity_isSized p0.1 p1))) ∧
  ((((s_gravity_isSized p0.1 p1) = true) →
  ((s_gravity_isSized p0.1 p1) = (s_gravity_isSized p0.1 p1))) ∧
  ((((s_gravity_isSized p0.1 p1) = true) →
  ((s_gravity_isSized p0.1 p1) = (s_gravity_isSized p0.1 p1))) ∧
  (((s_gravity_isSized p0.1 p1) = (s_gravity_isSized p0.1 p1)) ∧
  ((lenOk ((s_gravity_unless (cond (s_gravity_isSized p0.1 p1) (s_gravity_isSized p0.2 p1) false) (2 : Int)) :: ((s_gravity_unless (decide (p0.1 ≤ p0.2)) (9 : Int)) :: ([] : List Int)))) ∧
  (K (v_first ((s_gravity_unless (cond (s_gravity_isSized p0.1 p1) (s_gravity_isSized p0.2 p1) false) (2 : Int)) :: ((s_gravity_unless (decide (p0.1 ≤ p0.2)) (9 : Int)) :: ([] : List Int))))))))))
set_option maxHeartbeats 4000000 in
theorem w_gravity_rangeErr_eq (p0 : (Int × Int)) (p1 : Int) (K : Int → Prop) : tfn F_gravity_rangeErr A_gravity_rangeErr C_gravity_rangeErr P_gravity_rangeErr R_gravity_rangeErr (p0, p1) K = w_gravity_rangeErr p0 p1 K := by kernel_rfl
def s_gravity_rangeErr (p0 : (Int × Int)) (p1 : Int) : Int :=
  (v_first ((s_gravity_unless (cond (s_gravity_isSized p0.1 p1) (s_gravity_isSized p0.2 p1) false) (2 : Int)) :: ((s_gravity_unless (decide (p0.1 ≤ p0.2)) (9 : Int)) :: ([] : List Int))))
abbrev pre_gravity_rangeErr (p0 : (Int × Int)) (p1 : Int) : List Prop := []
set_option maxHeartbeats 4000000 in
theorem d_gravity_rangeErr (p0 : (Int × Int)) (p1 : Int) (K : Int → Prop) (hp : ∀ p ∈ pre_gravity_rangeErr p0 p1, p) (h : K (s_gravity_rangeErr p0 p1)) : w_gravity_rangeErr p0 p1 K := by
  unfold w_gravity_rangeErr
  unfold s_gravity_rangeErr at h
  exact ⟨(fun _ => rfl), ⟨(fun _ => rfl), ⟨(fun _ => rfl), ⟨rfl, ⟨(lenOk_of 2 rfl (by decide)), h⟩⟩⟩⟩⟩
abbrev con_gravity_rangeErr : Con := ⟨P_gravity_rangeErr, R_gravity_rangeErr, fun x => pre_gravity_rangeErr x.1 x.2, fun x => s_gravity_rangeErr x.1 x.2⟩
theorem ok_gravity_rangeErr : ConOk Tryd.prog 98 con_gravity_rangeErr := ⟨k_gravity_rangeErr, fun x hx => ret_tf (ps := P_gravity_rangeErr) (rs := R_gravity_rangeErr) (x := x) (y := s_gravity_rangeErr x.1 x.2) e_gravity_rangeErr hC_gravity_rangeErr (tf_of (w_gravity_rangeErr_eq x.1 x.2 (fun z => z = s_gravity_rangeErr x.1 x.2)) (d_gravity_rangeErr x.1 x.2 (fun z => z = s_gravity_rangeErr x.1 x.2) hx rfl))⟩
theorem tx_within' {n lo hi : Int} : s_gravity_within n lo hi = true ↔ lo ≤ n ∧ n ≤ hi := by unfold s_gravity_within; simp
theorem tx_range3 {x : Int × Int} (h : s_gravity_rangeErr x 1000000 = 0) : (-1000000 ≤ x.1 ∧ x.1 ≤ 1000000) ∧ (-1000000 ≤ x.2 ∧ x.2 ≤ 1000000) ∧ x.1 ≤ x.2 := by
  unfold s_gravity_rangeErr s_gravity_isSized at h
  rw [show IntKind.i64.wrap (0 - 1000000) = -1000000 from rfl] at h
  obtain ⟨h1, h⟩ := v_first0 h
  obtain ⟨h2, _⟩ := v_first0 h
  cases a : s_gravity_within x.1 (-1000000) 1000000 <;> cases b : s_gravity_within x.2 (-1000000) 1000000 <;> by_cases c : x.1 ≤ x.2 <;> simp [s_gravity_unless, a, b, c] at h1 h2
  exact ⟨tx_within'.1 a, tx_within'.1 b, c⟩
/- gravity_CheckHeights -/
def C_gravity_CheckHeights : Cons := [(98, [], con_gravity_rangeErr)]
theorem hC_gravity_CheckHeights : ConsOk Tryd.prog C_gravity_CheckHeights := ConsOk.cons ok_gravity_rangeErr <| ConsOk.nil
def w_gravity_CheckHeights (p0 : (List (Int × Int))) (K : (Int × Int) → Prop) : Prop :=
  ((((decide ((((List.length p0) : Nat) : Int) > (64 : Int))) = true) →
  (K ((0 : Int), (8 : Int)))) ∧
  (((decide ((((List.length p0) : Nat) : Int) > (64 : Int))) = false) →
  (∃ n0, (loopP (fun (y1 : Int) k2 =>
      ((((decide (y1 < (((List.length p0) : Nat) : Int))) = true) →
      (((0 : Int) ≤ y1) ∧
        ((y1 < (((List.length p0) : Nat) : Int)) ∧
        (((((s_gravity_rangeErr (List.getD p0 (Int.toNat y1) ((0 : Int), (0 : Int))) (1000000 : Int)) != (0 : Int)) = true) →
        (K (y1, (s_gravity_rangeErr (List.getD p0 (Int.toNat y1) ((0 : Int), (0 : Int))) (1000000 : Int))))) ∧
        ((((s_gravity_rangeErr (List.getD p0 (Int.toNat y1) ((0 : Int), (0 : Int))) (1000000 : Int)) != (0 : Int)) = false) →
        (k2 (Go.IntKind.wrap .i64 (y1 + (1 : Int))))))))) ∧
      (((decide (y1 < (((List.length p0) : Nat) : Int))) = false) →
      (K ((0 : Int), (0 : Int)))))) n0 (0 : Int)))))
set_option maxHeartbeats 4000000 in
theorem w_gravity_CheckHeights_eq (p0 : (List (Int × Int))) (K : (Int × Int) → Prop) : tfn F_gravity_CheckHeights A_gravity_CheckHeights C_gravity_CheckHeights P_gravity_CheckHeights R_gravity_CheckHeights p0 K = w_gravity_CheckHeights p0 K := by kernel_rfl
def st_gravity_CheckHeights_0 (p0 : (List (Int × Int))) (y1 : Int) : Int ⊕ (Int × Int) :=
  (cond (decide (y1 < (((List.length p0) : Nat) : Int))) (cond ((s_gravity_rangeErr (List.getD p0 (Int.toNat y1) ((0 : Int), (0 : Int))) (1000000 : Int)) != (0 : Int)) (Sum.inr (y1, (s_gravity_rangeErr (List.getD p0 (Int.toNat y1) ((0 : Int), (0 : Int))) (1000000 : Int))))
    (Sum.inl (Go.IntKind.wrap .i64 (y1 + (1 : Int)))))
    (Sum.inr ((0 : Int), (0 : Int))))
abbrev sp_gravity_CheckHeights_0 (p0 : (List (Int × Int))) (y1 : Int) : List Prop := [(((decide (y1 < (((List.length p0) : Nat) : Int))) = true) → ((0 : Int) ≤ y1)),
    (((decide (y1 < (((List.length p0) : Nat) : Int))) = true) → (y1 < (((List.length p0) : Nat) : Int)))]
def s_gravity_CheckHeights (p0 : (List (Int × Int))) : (Int × Int) :=
  (cond (decide ((((List.length p0) : Nat) : Int) > (64 : Int))) ((0 : Int), (8 : Int))
    (lpv ((0 : Int), (0 : Int)) (st_gravity_CheckHeights_0 p0) (0 : Int)))
abbrev pre_gravity_CheckHeights (p0 : (List (Int × Int))) : List Prop := [(((decide ((((List.length p0) : Nat) : Int) > (64 : Int))) = false) → (OkL (st_gravity_CheckHeights_0 p0) (sp_gravity_CheckHeights_0 p0) (0 : Int)))]
set_option maxHeartbeats 4000000 in
theorem d_gravity_CheckHeights (p0 : (List (Int × Int))) (K : (Int × Int) → Prop) (hp : ∀ p ∈ pre_gravity_CheckHeights p0, p) (h : K (s_gravity_CheckHeights p0)) : w_gravity_CheckHeights p0 K := by
  unfold w_gravity_CheckHeights
  unfold s_gravity_CheckHeights at h
  obtain ⟨hp0, _⟩ := conj_of hp
  exact (br' h (fun e0 h => h)
    (fun e0 h => (loop_gen (hp0 e0) h (fun y1 k1 hp h => by
  unfold st_gravity_CheckHeights_0 at h; obtain ⟨hp0, hp1, _⟩ := conj_of hp
  exact (br' h (fun e2 h => ⟨(hp0 e2), ⟨(hp1 e2), (br' h (fun e3 h => h)
    (fun e3 h => h))⟩⟩)
    (fun e2 h => h))))))
theorem l_gravity_CheckHeights_0 (p0 : List (Int × Int)) (hl : lenOk p0) : OkL (st_gravity_CheckHeights_0 p0) (sp_gravity_CheckHeights_0 p0) 0 ∧ lpv ((0 : Int), (0 : Int)) (st_gravity_CheckHeights_0 p0) 0 = v_scan (fun i x => cond (s_gravity_rangeErr x 1000000 != 0) (some (i, s_gravity_rangeErr x 1000000)) none) ((0 : Int), (0 : Int)) 0 p0 := by
  refine scan_is p0 (0, 0) (fun i x => cond (s_gravity_rangeErr x 1000000 != 0) (some (i, s_gravity_rangeErr x 1000000)) none) ((0 : Int), (0 : Int)) hl ?_ ?_
  · refine ⟨by simp only [sp_gravity_CheckHeights_0, List.forall_mem_cons, decide_eq_true_eq]; simp, by simp [st_gravity_CheckHeights_0]⟩
  · intro j hj
    have hj' : (j : Int) < p0.length := by omega
    refine ⟨by simp only [sp_gravity_CheckHeights_0, List.forall_mem_cons, decide_eq_true_eq, Int.toNat_natCast]; simp <;> omega, ?_⟩
    simp only [st_gravity_CheckHeights_0, hj', decide_true, Int.toNat_natCast, cond_true, wrap_nat (show (j : Int) ≤ 9223372036854775806 by unfold lenOk at hl; omega)]
    generalize p0.getD j (0, 0) = x
    cases (s_gravity_rangeErr x 1000000 != 0) <;> rfl
/-- The error of ranges, with an index. -/
def v_heights (p0 : List (Int × Int)) : Int × Int := cond (decide ((p0.length : Int) > 64)) (0, 8) (v_scan (fun i x => cond (s_gravity_rangeErr x 1000000 != 0) (some (i, s_gravity_rangeErr x 1000000)) none) ((0 : Int), (0 : Int)) 0 p0)
abbrev t_gravity_CheckHeights (p0 : List (Int × Int)) : Int × Int := v_heights p0
abbrev qre_gravity_CheckHeights (_ : List (Int × Int)) : List Prop := []
theorem pp_gravity_CheckHeights (p0 : List (Int × Int)) (_ : ∀ p ∈ qre_gravity_CheckHeights p0, p) : ∀ p ∈ pre_gravity_CheckHeights p0, p := by
  simp only [pre_gravity_CheckHeights, List.forall_mem_cons]
  refine ⟨fun h => (l_gravity_CheckHeights_0 p0 (lenOk_le (n := 64) ?_ (by decide))).1, by simp⟩
  have := of_decide_eq_false h; omega
theorem tt_gravity_CheckHeights (p0 : List (Int × Int)) (_ : ∀ p ∈ qre_gravity_CheckHeights p0, p) : s_gravity_CheckHeights p0 = t_gravity_CheckHeights p0 := by
  unfold s_gravity_CheckHeights t_gravity_CheckHeights v_heights
  cases h : decide ((p0.length : Int) > 64)
  · have := of_decide_eq_false h
    exact (l_gravity_CheckHeights_0 p0 (lenOk_le (n := 64) (by omega) (by decide))).2
  · rfl
structure v_hok (p0 : List (Int × Int)) : Prop where
  len : p0.length ≤ 64
  all : ∀ x ∈ p0, (-1000000 ≤ x.1 ∧ x.1 ≤ 1000000) ∧ (-1000000 ≤ x.2 ∧ x.2 ≤ 1000000) ∧ x.1 ≤ x.2
theorem tx_range {x : Int × Int} {m : Int} (hm : 0 ≤ m ∧ m ≤ 1000000000) (h : s_gravity_rangeErr x m = 0) : (-m ≤ x.1 ∧ x.1 ≤ m) ∧ (-m ≤ x.2 ∧ x.2 ≤ m) ∧ x.1 ≤ x.2 := by
  unfold s_gravity_rangeErr s_gravity_isSized at h
  have e : IntKind.i64.wrap (0 - m) = -m := by rw [wrap_id (by omega) (by omega)]; omega
  rw [e] at h
  obtain ⟨h1, h⟩ := v_first0 h
  obtain ⟨h2, _⟩ := v_first0 h
  cases a : s_gravity_within x.1 (-m) m <;> cases b : s_gravity_within x.2 (-m) m <;> by_cases c : x.1 ≤ x.2 <;> simp [s_gravity_unless, a, b, c] at h1 h2
  exact ⟨tx_within.1 a, tx_within.1 b, c⟩
theorem tx_heights {p0 : List (Int × Int)} (h : (v_heights p0).2 = 0) : v_hok p0 := by
  unfold v_heights at h
  cases hl : decide ((p0.length : Int) > 64)
  · rw [hl] at h
    have hl' := of_decide_eq_false hl
    refine ⟨by omega, fun x hx => ?_⟩
    have := v_scan_end (P := fun (r : Int × Int) => r.2 = 0) p0 0 h (fun j x v _ hv => by
      cases hb : (s_gravity_rangeErr x 1000000 != 0) <;> rw [hb] at hv <;> simp only [cond_true, cond_false, Option.some.injEq, reduceCtorEq] at hv
      subst hv; simpa using hb)
    obtain ⟨k, hk, rfl⟩ := List.mem_iff_getElem.1 hx
    have := this k hk
    cases hb : (s_gravity_rangeErr p0[k] 1000000 != 0)
    · exact tx_range (m := 1000000) (by decide) (bne0' hb)
    · rw [hb] at this; cases this
  · rw [hl] at h; cases h

abbrev con_gravity_CheckHeights : Con := ⟨P_gravity_CheckHeights, R_gravity_CheckHeights, fun x => qre_gravity_CheckHeights x, fun x => t_gravity_CheckHeights x⟩
theorem ok_gravity_CheckHeights : ConOk Tryd.prog 27 con_gravity_CheckHeights := ⟨k_gravity_CheckHeights, fun x hx => ret_tf (ps := P_gravity_CheckHeights) (rs := R_gravity_CheckHeights) (x := x) (y := t_gravity_CheckHeights x) e_gravity_CheckHeights hC_gravity_CheckHeights (tf_of (w_gravity_CheckHeights_eq x (fun z => z = t_gravity_CheckHeights x)) (d_gravity_CheckHeights x (fun z => z = t_gravity_CheckHeights x) (pp_gravity_CheckHeights x hx) (tt_gravity_CheckHeights x hx)))⟩
/- gravity_rangesErr -/
def C_gravity_rangesErr : Cons := [(27, [], con_gravity_CheckHeights)]
theorem hC_gravity_rangesErr : ConsOk Tryd.prog C_gravity_rangesErr := ConsOk.cons ok_gravity_CheckHeights <| ConsOk.nil
def w_gravity_rangesErr (p0 : (List (Int × Int))) (K : Int → Prop) : Prop :=
  (K (v_heights p0).2)
set_option maxHeartbeats 4000000 in
theorem w_gravity_rangesErr_eq (p0 : (List (Int × Int))) (K : Int → Prop) : tfn F_gravity_rangesErr A_gravity_rangesErr C_gravity_rangesErr P_gravity_rangesErr R_gravity_rangesErr p0 K = w_gravity_rangesErr p0 K := by kernel_rfl
def s_gravity_rangesErr (p0 : (List (Int × Int))) : Int :=
  (v_heights p0).2
abbrev pre_gravity_rangesErr (p0 : (List (Int × Int))) : List Prop := []
set_option maxHeartbeats 4000000 in
theorem d_gravity_rangesErr (p0 : (List (Int × Int))) (K : Int → Prop) (hp : ∀ p ∈ pre_gravity_rangesErr p0, p) (h : K (s_gravity_rangesErr p0)) : w_gravity_rangesErr p0 K := by
  unfold w_gravity_rangesErr
  unfold s_gravity_rangesErr at h
  exact h
abbrev con_gravity_rangesErr : Con := ⟨P_gravity_rangesErr, R_gravity_rangesErr, fun x => pre_gravity_rangesErr x, fun x => s_gravity_rangesErr x⟩
theorem ok_gravity_rangesErr : ConOk Tryd.prog 99 con_gravity_rangesErr := ⟨k_gravity_rangesErr, fun x hx => ret_tf (ps := P_gravity_rangesErr) (rs := R_gravity_rangesErr) (x := x) (y := s_gravity_rangesErr x) e_gravity_rangesErr hC_gravity_rangesErr (tf_of (w_gravity_rangesErr_eq x (fun z => z = s_gravity_rangesErr x)) (d_gravity_rangesErr x (fun z => z = s_gravity_rangesErr x) hx rfl))⟩
/- gravity_both_p -/
def C_gravity_both_p : Cons := [(125, ownMark, con_slices_Cloneint_int), (129, nMark 1, con_slices_Reverseint_int)]
theorem hC_gravity_both_p : ConsOk Tryd.prog C_gravity_both_p := ConsOk.consO ok_slices_Cloneint_int <| ConsOk.consN ok_slices_Reverseint_int <| ConsOk.nil
def w_gravity_both_p (p0 : (List Int)) (K : (List Int) → Prop) : Prop :=
  (((List.length p0) ≤ 1000000) ∧
  ((0 < (List.length p0)) ∧
  (((List.length p0) ≤ 1000000) ∧
  (((0 : Int) ≤ (1 : Int)) ∧
  (((1 : Int) ≤ (((List.length p0) : Nat) : Int)) ∧
  (((((List.length (v_rev p0)) + (List.length (List.drop (Int.toNat (1 : Int)) p0))) * 8) ≤ 140737488355328) ∧
  (K ((v_rev p0) ++ (List.drop (Int.toNat (1 : Int)) p0)))))))))
set_option maxHeartbeats 4000000 in
theorem w_gravity_both_p_eq (p0 : (List Int)) (K : (List Int) → Prop) : tfn F_gravity_both_p A_gravity_both_p C_gravity_both_p P_gravity_both_p R_gravity_both_p p0 K = w_gravity_both_p p0 K := by kernel_rfl
def s_gravity_both_p (p0 : (List Int)) : (List Int) :=
  ((v_rev p0) ++ (List.drop (Int.toNat (1 : Int)) p0))
abbrev pre_gravity_both_p (p0 : (List Int)) : List Prop := [((List.length p0) ≤ 1000000),
    (0 < (List.length p0)),
    ((1 : Int) ≤ (((List.length p0) : Nat) : Int)),
    ((((List.length (v_rev p0)) + (List.length (List.drop (Int.toNat (1 : Int)) p0))) * 8) ≤ 140737488355328)]
set_option maxHeartbeats 4000000 in
theorem d_gravity_both_p (p0 : (List Int)) (K : (List Int) → Prop) (hp : ∀ p ∈ pre_gravity_both_p p0, p) (h : K (s_gravity_both_p p0)) : w_gravity_both_p p0 K := by
  unfold w_gravity_both_p
  unfold s_gravity_both_p at h
  obtain ⟨hp0, hp1, hp2, hp3, _⟩ := conj_of hp
  exact ⟨(hp0), ⟨(hp1), ⟨(hp0), ⟨(of_decide_eq_true rfl), ⟨(hp2), ⟨(hp3), h⟩⟩⟩⟩⟩⟩
abbrev t_gravity_both_p (p0 : List Int) : List Int := v_both p0
abbrev qre_gravity_both_p (p0 : List Int) : List Prop := [1 ≤ p0.length ∧ p0.length ≤ 1000000]
theorem pp_gravity_both_p (p0 : List Int) (hq : ∀ p ∈ qre_gravity_both_p p0, p) : ∀ p ∈ pre_gravity_both_p p0, p := by
  have h := (conj_of hq).1
  simp only [pre_gravity_both_p, List.forall_mem_cons]
  exact ⟨h.2, by omega, by omega, by simp [v_rev]; omega, by simp⟩
theorem tt_gravity_both_p (p0 : List Int) (hq : ∀ p ∈ qre_gravity_both_p p0, p) : s_gravity_both_p p0 = t_gravity_both_p p0 := by
  rfl

abbrev con_gravity_both_p : Con := ⟨P_gravity_both_p, R_gravity_both_p, fun x => qre_gravity_both_p x, fun x => t_gravity_both_p x⟩
theorem ok_gravity_both_p : ConOk Tryd.prog 90 con_gravity_both_p := ⟨k_gravity_both_p, fun x hx => ret_tf (ps := P_gravity_both_p) (rs := R_gravity_both_p) (x := x) (y := t_gravity_both_p x) e_gravity_both_p hC_gravity_both_p (tf_of (w_gravity_both_p_eq x (fun z => z = t_gravity_both_p x)) (d_gravity_both_p x (fun z => z = t_gravity_both_p x) (pp_gravity_both_p x hx) (tt_gravity_both_p x hx)))⟩
/- gravity_windows -/
def C_gravity_windows : Cons := []
theorem hC_gravity_windows : ConsOk Tryd.prog C_gravity_windows := ConsOk.nil
def w_gravity_windows (p0 : (List (Int × Int))) (p1 : Int) (K : ((List (Int × Int)) × (Int × PUnit)) → Prop) : Prop :=
  (K (p0, (p1, ())))
set_option maxHeartbeats 4000000 in
theorem w_gravity_windows_eq (p0 : (List (Int × Int))) (p1 : Int) (K : ((List (Int × Int)) × (Int × PUnit)) → Prop) : tfn F_gravity_windows A_gravity_windows C_gravity_windows P_gravity_windows R_gravity_windows (p0, p1) K = w_gravity_windows p0 p1 K := by kernel_rfl
def s_gravity_windows (p0 : (List (Int × Int))) (p1 : Int) : ((List (Int × Int)) × (Int × PUnit)) :=
  (p0, (p1, ()))
abbrev pre_gravity_windows (p0 : (List (Int × Int))) (p1 : Int) : List Prop := []
set_option maxHeartbeats 4000000 in
theorem d_gravity_windows (p0 : (List (Int × Int))) (p1 : Int) (K : ((List (Int × Int)) × (Int × PUnit)) → Prop) (hp : ∀ p ∈ pre_gravity_windows p0 p1, p) (h : K (s_gravity_windows p0 p1)) : w_gravity_windows p0 p1 K := by
  unfold w_gravity_windows
  unfold s_gravity_windows at h
  exact h
abbrev con_gravity_windows : Con := ⟨P_gravity_windows, R_gravity_windows, fun x => pre_gravity_windows x.1 x.2, fun x => s_gravity_windows x.1 x.2⟩
theorem ok_gravity_windows : ConOk Tryd.prog 100 con_gravity_windows := ⟨k_gravity_windows, fun x hx => ret_tf (ps := P_gravity_windows) (rs := R_gravity_windows) (x := x) (y := s_gravity_windows x.1 x.2) e_gravity_windows hC_gravity_windows (tf_of (w_gravity_windows_eq x.1 x.2 (fun z => z = s_gravity_windows x.1 x.2)) (d_gravity_windows x.1 x.2 (fun z => z = s_gravity_windows x.1 x.2) hx rfl))⟩
/- gravity_windows_1 -/
/-- So many that follow one another, at each place. -/
def v_windows (l : List (Int × Int)) (c : Int) : List (Int × List (Int × Int)) := (List.range (max 0 ((l.length : Int) - c + 1)).toNat).map fun (k : Nat) => ((k : Int), (l.drop k).take c.toNat)
theorem v_windows_eq (l : List (Int × Int)) (c : Int) (hc : 1 ≤ c) : v_wins (l.map (Ty.enc (.pr (.int .i64) (.int .i64)))) false c = (v_windows l c).map (valPs [.one (.int .i64), .one (.sl (.pr (.int .i64) (.int .i64)))]) := by
  unfold v_wins v_windows
  rw [List.map_map, List.length_map]
  refine List.map_congr_left fun k _ => ?_
  simp only [Function.comp, valPs, valP, Ty.enc, Bool.false_and, List.map_take, List.map_drop, Ty.n]
  rw [show ((k : Int) + c).toNat - (k : Int).toNat = c.toNat by omega]
abbrev con_gravity_windows_1 : Con := ⟨.fn 130 [.sl (.pr (.int .i64) (.int .i64)), .int .i64] :: .one (.int .i64) :: [.one (.sl (.pr (.int .i64) (.int .i64)))], [.one (.sl (tyPs (.one (.int .i64) :: [.one (.sl (.pr (.int .i64) (.int .i64)))])))], fun x => [1 ≤ x.1.2.1, x.1.2.1 ≤ 1000000, x.1.1.length ≤ 1000000], fun x => v_windows x.1.1 x.1.2.1⟩
theorem ok_gravity_windows_1 : ConIOk Tryd.prog 130 con_gravity_windows_1 := by
  refine ⟨rfl, k_gravity_windows_1, rfl, fun x hx => ?_⟩
  obtain ⟨h1, h2, h3, _⟩ := conj_of hx
  show Iter Tryd.prog 130 [[.sl 2 (x.1.map (Ty.enc (.pr (.int .i64) (.int .i64)))) false], [.int .i64 x.2.1]] ((v_windows x.1 x.2.1).map (valPs [.one (.int .i64), .one (.sl (.pr (.int .i64) (.int .i64)))]))
  rw [← v_windows_eq x.1 x.2.1 h1]
  exact it_windows _ false x.2.1 h1 h2 (by rw [List.length_map]; exact h3)
/- gravity_linear -/
def C_gravity_linear : Cons := []
theorem hC_gravity_linear : ConsOk Tryd.prog C_gravity_linear := ConsOk.nil
def w_gravity_linear (p0 : (List Int)) (p1 : (List (Int × Int))) (K : (Int × Int) → Prop) : Prop :=
  (∃ n0, (loopP (fun (y1 : (Int × (Int × Int))) k2 =>
    ((((decide (y1.1 < (((List.length p0) : Nat) : Int))) = true) →
    (((0 : Int) ≤ y1.1) ∧
      ((y1.1 < (((List.length p0) : Nat) : Int)) ∧
      (((0 : Int) ≤ y1.1) ∧
      ((y1.1 < (((List.length p1) : Nat) : Int)) ∧
      (((0 : Int) ≤ y1.1) ∧
      ((y1.1 < (((List.length p1) : Nat) : Int)) ∧
      (k2 ((Go.IntKind.wrap .i64 (y1.1 + (1 : Int))), ((Go.IntKind.wrap .i64 (y1.2.1 + (min (Go.IntKind.wrap .i64 ((List.getD p0 (Int.toNat y1.1) (0 : Int)) * (List.getD p1 (Int.toNat y1.1) ((0 : Int), (0 : Int))).1)) (Go.IntKind.wrap .i64 ((List.getD p0 (Int.toNat y1.1) (0 : Int)) * (List.getD p1 (Int.toNat y1.1) ((0 : Int), (0 : Int))).2))))), (Go.IntKind.wrap .i64 (y1.2.2 + (max (Go.IntKind.wrap .i64 ((List.getD p0 (Int.toNat y1.1) (0 : Int)) * (List.getD p1 (Int.toNat y1.1) ((0 : Int), (0 : Int))).1)) (Go.IntKind.wrap .i64 ((List.getD p0 (Int.toNat y1.1) (0 : Int)) * (List.getD p1 (Int.toNat y1.1) ((0 : Int), (0 : Int))).2))))))))))))))) ∧
    (((decide (y1.1 < (((List.length p0) : Nat) : Int))) = false) →
    (K y1.2)))) n0 ((0 : Int), ((0 : Int), (0 : Int)))))
set_option maxHeartbeats 4000000 in
theorem w_gravity_linear_eq (p0 : (List Int)) (p1 : (List (Int × Int))) (K : (Int × Int) → Prop) : tfn F_gravity_linear A_gravity_linear C_gravity_linear P_gravity_linear R_gravity_linear (p0, p1) K = w_gravity_linear p0 p1 K := by kernel_rfl
def st_gravity_linear_0 (p0 : (List Int)) (p1 : (List (Int × Int))) (y0 : (Int × (Int × Int))) : (Int × (Int × Int)) ⊕ (Int × Int) :=
  (cond (decide (y0.1 < (((List.length p0) : Nat) : Int))) (Sum.inl ((Go.IntKind.wrap .i64 (y0.1 + (1 : Int))), ((Go.IntKind.wrap .i64 (y0.2.1 + (min (Go.IntKind.wrap .i64 ((List.getD p0 (Int.toNat y0.1) (0 : Int)) * (List.getD p1 (Int.toNat y0.1) ((0 : Int), (0 : Int))).1)) (Go.IntKind.wrap .i64 ((List.getD p0 (Int.toNat y0.1) (0 : Int)) * (List.getD p1 (Int.toNat y0.1) ((0 : Int), (0 : Int))).2))))), (Go.IntKind.wrap .i64 (y0.2.2 + (max (Go.IntKind.wrap .i64 ((List.getD p0 (Int.toNat y0.1) (0 : Int)) * (List.getD p1 (Int.toNat y0.1) ((0 : Int), (0 : Int))).1)) (Go.IntKind.wrap .i64 ((List.getD p0 (Int.toNat y0.1) (0 : Int)) * (List.getD p1 (Int.toNat y0.1) ((0 : Int), (0 : Int))).2))))))))
    (Sum.inr y0.2))
abbrev sp_gravity_linear_0 (p0 : (List Int)) (p1 : (List (Int × Int))) (y0 : (Int × (Int × Int))) : List Prop := [(((decide (y0.1 < (((List.length p0) : Nat) : Int))) = true) → ((0 : Int) ≤ y0.1)),
    (((decide (y0.1 < (((List.length p0) : Nat) : Int))) = true) → (y0.1 < (((List.length p0) : Nat) : Int))),
    (((decide (y0.1 < (((List.length p0) : Nat) : Int))) = true) → (y0.1 < (((List.length p1) : Nat) : Int)))]
def s_gravity_linear (p0 : (List Int)) (p1 : (List (Int × Int))) : (Int × Int) :=
  (lpv ((0 : Int), (0 : Int)) (st_gravity_linear_0 p0 p1) ((0 : Int), ((0 : Int), (0 : Int))))
abbrev pre_gravity_linear (p0 : (List Int)) (p1 : (List (Int × Int))) : List Prop := [(OkL (st_gravity_linear_0 p0 p1) (sp_gravity_linear_0 p0 p1) ((0 : Int), ((0 : Int), (0 : Int))))]
set_option maxHeartbeats 4000000 in
theorem d_gravity_linear (p0 : (List Int)) (p1 : (List (Int × Int))) (K : (Int × Int) → Prop) (hp : ∀ p ∈ pre_gravity_linear p0 p1, p) (h : K (s_gravity_linear p0 p1)) : w_gravity_linear p0 p1 K := by
  unfold w_gravity_linear
  unfold s_gravity_linear at h
  obtain ⟨hp0, _⟩ := conj_of hp
  exact (loop_gen (hp0) h (fun y0 k0 hp h => by
  unfold st_gravity_linear_0 at h; obtain ⟨hp0, hp1, hp2, _⟩ := conj_of hp
  exact (br' h (fun e1 h => ⟨(hp0 e1), ⟨(hp1 e1), ⟨(hp0 e1), ⟨(hp2 e1), ⟨(hp0 e1), ⟨(hp2 e1), h⟩⟩⟩⟩⟩⟩)
    (fun e1 h => h))))
/-- The range of the sum of weights times numbers within ranges. -/
def v_lin : List Int → List (Int × Int) → Int × Int
  | w :: ws, x :: xs => (min (w * x.1) (w * x.2) + (v_lin ws xs).1, max (w * x.1) (w * x.2) + (v_lin ws xs).2)
  | _, _ => (0, 0)
theorem v_prod {w x m : Int} (hw : -m ≤ w ∧ w ≤ m) (hx : -1000000 ≤ x ∧ x ≤ 1000000) (hm : 0 ≤ m) : -(m * 1000000) ≤ w * x ∧ w * x ≤ m * 1000000 := by
  have h1 : 0 ≤ (m - w) * (1000000 + x) := Int.mul_nonneg (by omega) (by omega)
  have h2 : 0 ≤ (m + w) * (1000000 - x) := Int.mul_nonneg (by omega) (by omega)
  have h3 : 0 ≤ (m - w) * (1000000 - x) := Int.mul_nonneg (by omega) (by omega)
  have h4 : 0 ≤ (m + w) * (1000000 + x) := Int.mul_nonneg (by omega) (by omega)
  simp only [Int.sub_mul, Int.add_mul, Int.mul_add, Int.mul_sub] at h1 h2 h3 h4
  omega
/-- Weights, and numbers within ranges, whose sums fit. -/
structure v_linok (p0 : List Int) (p1 : List (Int × Int)) : Prop where
  len : p0.length ≤ p1.length
  few : p0.length ≤ 100
  w : ∀ x ∈ p0, -1000000 ≤ x ∧ x ≤ 1000000
  x : ∀ x ∈ p1, (-1000000 ≤ x.1 ∧ x.1 ≤ 1000000) ∧ (-1000000 ≤ x.2 ∧ x.2 ≤ 1000000)
theorem l_gravity_linear (p0 : List Int) (p1 : List (Int × Int)) (h : v_linok p0 p1) : OkL (st_gravity_linear_0 p0 p1) (sp_gravity_linear_0 p0 p1) (0, 0, 0) ∧ s_gravity_linear p0 p1 = v_lin p0 p1 := by
  have hf := h.few
  have hle := h.len
  have := list_is (dd := ((0 : Int), (0 : Int))) (st := st_gravity_linear_0 p0 p1) (sp := sp_gravity_linear_0 p0 p1) (fun i (t : Int × Int) => (i, t)) p0 0
    (fun r t => r.length ≤ p0.length ∧ (-((p0.length - r.length) * 1000000000000) ≤ t.1 ∧ t.1 ≤ ((p0.length - r.length) * 1000000000000)) ∧ (-((p0.length - r.length) * 1000000000000) ≤ t.2 ∧ t.2 ≤ ((p0.length - r.length) * 1000000000000)))
    (fun r t => (t.1 + (v_lin r (p1.drop (p0.length - r.length))).1, t.2 + (v_lin r (p1.drop (p0.length - r.length))).2)) (by unfold lenOk; omega) ?_ ?_ (0, 0) ⟨Nat.le_refl _, by simp, by simp⟩
  · refine ⟨this.1, this.2.trans ?_⟩
    simp
  · intro t _
    refine ⟨by simp only [sp_gravity_linear_0, List.forall_mem_cons, decide_eq_true_eq]; simp, by simp [st_gravity_linear_0, v_lin]⟩
  · intro j t hj hi
    obtain ⟨_, hi1, hi2⟩ := hi
    have hj' : (j : Int) < p0.length := by omega
    have e1 : (p0.getD j 0 :: p0.drop (j + 1)).length = p0.length - j := by simp; omega
    have e2 : (p0.drop (j + 1)).length = p0.length - (j + 1) := by simp
    have e3 : p0.length - (p0.length - j) = j := by omega
    have e4 : p0.length - (p0.length - (j + 1)) = j + 1 := by omega
    rw [e1] at hi1 hi2
    have hw := h.w _ (getD_mem' 0 hj)
    have hx := h.x _ (getD_mem' (0, 0) (show j < p1.length by omega))
    have hd := drop_getD ((0 : Int), (0 : Int)) (show j < p1.length by omega)
    refine ⟨by simp only [sp_gravity_linear_0, List.forall_mem_cons, decide_eq_true_eq]; simp <;> omega, .inl ⟨(t.1 + min (p0.getD j 0 * (p1.getD j (0, 0)).1) (p0.getD j 0 * (p1.getD j (0, 0)).2), t.2 + max (p0.getD j 0 * (p1.getD j (0, 0)).1) (p0.getD j 0 * (p1.getD j (0, 0)).2)), ?_, ?_, ?_⟩⟩
    · simp only [st_gravity_linear_0, hj', decide_true, Int.toNat_natCast, cond_true, wrap_nat (show (j : Int) ≤ 9223372036854775806 by omega)]
      generalize p0.getD j 0 = w at *
      generalize p1.getD j (0, 0) = x at *
      have b1 := v_prod (m := 1000000) hw hx.1 (by decide)
      have b2 := v_prod (m := 1000000) hw hx.2 (by decide)
      rw [wrap_id (n := w * x.1) (by omega) (by omega), wrap_id (n := w * x.2) (by omega) (by omega), wrap_id (by omega) (by omega), wrap_id (by omega) (by omega)]
    · rw [e2]
      generalize p0.getD j 0 = w at *
      generalize p1.getD j (0, 0) = x at *
      have b1 := v_prod (m := 1000000) hw hx.1 (by decide)
      have b2 := v_prod (m := 1000000) hw hx.2 (by decide)
      exact ⟨by omega, by simp only; omega, by simp only; omega⟩
    · rw [e1, e2, e3, e4, hd]
      simp only [v_lin]
      rw [Prod.mk.injEq]
      exact ⟨by omega, by omega⟩
abbrev t_gravity_linear (p0 : List Int) (p1 : List (Int × Int)) : Int × Int := v_lin p0 p1
abbrev qre_gravity_linear (p0 : List Int) (p1 : List (Int × Int)) : List Prop := [v_linok p0 p1]
theorem pp_gravity_linear (p0 : List Int) (p1 : List (Int × Int)) (hq : ∀ p ∈ qre_gravity_linear p0 p1, p) : ∀ p ∈ pre_gravity_linear p0 p1, p := by
  simp only [pre_gravity_linear, List.forall_mem_cons]
  exact ⟨(l_gravity_linear p0 p1 (conj_of hq).1).1, by simp⟩
theorem tt_gravity_linear (p0 : List Int) (p1 : List (Int × Int)) (hq : ∀ p ∈ qre_gravity_linear p0 p1, p) : s_gravity_linear p0 p1 = t_gravity_linear p0 p1 := (l_gravity_linear p0 p1 (conj_of hq).1).2

abbrev con_gravity_linear : Con := ⟨P_gravity_linear, R_gravity_linear, fun x => qre_gravity_linear x.1 x.2, fun x => t_gravity_linear x.1 x.2⟩
theorem ok_gravity_linear : ConOk Tryd.prog 101 con_gravity_linear := ⟨k_gravity_linear, fun x hx => ret_tf (ps := P_gravity_linear) (rs := R_gravity_linear) (x := x) (y := t_gravity_linear x.1 x.2) e_gravity_linear hC_gravity_linear (tf_of (w_gravity_linear_eq x.1 x.2 (fun z => z = t_gravity_linear x.1 x.2)) (d_gravity_linear x.1 x.2 (fun z => z = t_gravity_linear x.1 x.2) (pp_gravity_linear x.1 x.2 hx) (tt_gravity_linear x.1 x.2 hx)))⟩
/- gravity_floor -/
def C_gravity_floor : Cons := []
theorem hC_gravity_floor : ConsOk Tryd.prog C_gravity_floor := ConsOk.nil
def w_gravity_floor (p0 : Int) (p1 : Int) (K : Int → Prop) : Prop :=
  ((p1 ≠ (0 : Int)) ∧
  ((((decide ((Go.IntKind.wrap .i64 ((Go.IntKind.wrap .i64 (Int.tdiv p0 p1)) * p1)) > p0)) = true) →
  (K (Go.IntKind.wrap .i64 ((Go.IntKind.wrap .i64 (Int.tdiv p0 p1)) - (1 : Int))))) ∧
  (((decide ((Go.IntKind.wrap .i64 ((Go.IntKind.wrap .i64 (Int.tdiv p0 p1)) * p1)) > p0)) = false) →
  (K (Go.IntKind.wrap .i64 (Int.tdiv p0 p1))))))
set_option maxHeartbeats 4000000 in
theorem w_gravity_floor_eq (p0 : Int) (p1 : Int) (K : Int → Prop) : tfn F_gravity_floor A_gravity_floor C_gravity_floor P_gravity_floor R_gravity_floor (p0, p1) K = w_gravity_floor p0 p1 K := by kernel_rfl
def s_gravity_floor (p0 : Int) (p1 : Int) : Int :=
  (cond (decide ((Go.IntKind.wrap .i64 ((Go.IntKind.wrap .i64 (Int.tdiv p0 p1)) * p1)) > p0)) (Go.IntKind.wrap .i64 ((Go.IntKind.wrap .i64 (Int.tdiv p0 p1)) - (1 : Int)))
    (Go.IntKind.wrap .i64 (Int.tdiv p0 p1)))
abbrev pre_gravity_floor (p0 : Int) (p1 : Int) : List Prop := [(p1 ≠ (0 : Int))]
set_option maxHeartbeats 4000000 in
theorem d_gravity_floor (p0 : Int) (p1 : Int) (K : Int → Prop) (hp : ∀ p ∈ pre_gravity_floor p0 p1, p) (h : K (s_gravity_floor p0 p1)) : w_gravity_floor p0 p1 K := by
  unfold w_gravity_floor
  unfold s_gravity_floor at h
  obtain ⟨hp0, _⟩ := conj_of hp
  exact ⟨(hp0), (br' h (fun e0 h => h)
    (fun e0 h => h))⟩
theorem tx_floor {n b : Int} (hn : v_fit n) (hb : 0 < b) : s_gravity_floor n b = n / b := by
  have h1 : (n.tdiv b).natAbs ≤ n.natAbs := by
    rw [Int.natAbs_tdiv]; exact Nat.div_le_self _ _
  have h2 := v_tmod_lt (a := n) (b := b) (by omega)
  have h3 := Int.mul_tdiv_add_tmod n b
  have h4 : (b * n.tdiv b).natAbs ≤ n.natAbs := by
    rw [Int.natAbs_mul, Int.natAbs_tdiv]; exact Nat.mul_div_le _ _
  unfold v_fit at hn
  unfold s_gravity_floor
  rw [wrap_id (n := n.tdiv b) (by omega) (by omega), Int.mul_comm (n.tdiv b) b, wrap_id (n := b * n.tdiv b) (by omega) (by omega)]
  have := floor_is hn hb
  rw [wrap_id (n := n.tdiv b) (by omega) (by omega)] at this
  rw [← this]
  congr 1
  rw [decide_eq_decide]; omega
abbrev t_gravity_floor (p0 p1 : Int) : Int := p0 / p1
abbrev qre_gravity_floor (p0 p1 : Int) : List Prop := [v_fit p0, 0 < p1]
theorem pp_gravity_floor (p0 p1 : Int) (hq : ∀ p ∈ qre_gravity_floor p0 p1, p) : ∀ p ∈ pre_gravity_floor p0 p1, p := by
  simp only [pre_gravity_floor, List.forall_mem_cons]
  have := (conj_of hq).2.1
  exact ⟨by omega, by simp⟩
theorem tt_gravity_floor (p0 p1 : Int) (hq : ∀ p ∈ qre_gravity_floor p0 p1, p) : s_gravity_floor p0 p1 = t_gravity_floor p0 p1 := tx_floor (conj_of hq).1 (conj_of hq).2.1

abbrev con_gravity_floor : Con := ⟨P_gravity_floor, R_gravity_floor, fun x => qre_gravity_floor x.1 x.2, fun x => t_gravity_floor x.1 x.2⟩
theorem ok_gravity_floor : ConOk Tryd.prog 117 con_gravity_floor := ⟨k_gravity_floor, fun x hx => ret_tf (ps := P_gravity_floor) (rs := R_gravity_floor) (x := x) (y := t_gravity_floor x.1 x.2) e_gravity_floor hC_gravity_floor (tf_of (w_gravity_floor_eq x.1 x.2 (fun z => z = t_gravity_floor x.1 x.2)) (d_gravity_floor x.1 x.2 (fun z => z = t_gravity_floor x.1 x.2) (pp_gravity_floor x.1 x.2 hx) (tt_gravity_floor x.1 x.2 hx)))⟩
/- gravity_ceil -/
def C_gravity_ceil : Cons := [(117, [], con_gravity_floor)]
theorem hC_gravity_ceil : ConsOk Tryd.prog C_gravity_ceil := ConsOk.cons ok_gravity_floor <| ConsOk.nil
def w_gravity_ceil (p0 : Int) (p1 : Int) (K : Int → Prop) : Prop :=
  ((v_fit (Go.IntKind.wrap .i64 ((0 : Int) - p0))) ∧
  (((0 : Int) < p1) ∧
  (K (Go.IntKind.wrap .i64 ((0 : Int) - ((Go.IntKind.wrap .i64 ((0 : Int) - p0)) / p1))))))
set_option maxHeartbeats 4000000 in
theorem w_gravity_ceil_eq (p0 : Int) (p1 : Int) (K : Int → Prop) : tfn F_gravity_ceil A_gravity_ceil C_gravity_ceil P_gravity_ceil R_gravity_ceil (p0, p1) K = w_gravity_ceil p0 p1 K := by kernel_rfl
def s_gravity_ceil (p0 : Int) (p1 : Int) : Int :=
  (Go.IntKind.wrap .i64 ((0 : Int) - ((Go.IntKind.wrap .i64 ((0 : Int) - p0)) / p1)))
abbrev pre_gravity_ceil (p0 : Int) (p1 : Int) : List Prop := [(v_fit (Go.IntKind.wrap .i64 ((0 : Int) - p0))),
    ((0 : Int) < p1)]
set_option maxHeartbeats 4000000 in
theorem d_gravity_ceil (p0 : Int) (p1 : Int) (K : Int → Prop) (hp : ∀ p ∈ pre_gravity_ceil p0 p1, p) (h : K (s_gravity_ceil p0 p1)) : w_gravity_ceil p0 p1 K := by
  unfold w_gravity_ceil
  unfold s_gravity_ceil at h
  obtain ⟨hp0, hp1, _⟩ := conj_of hp
  exact ⟨(hp0), ⟨(hp1), h⟩⟩
/-- A quotient rounded up. -/
def v_ceil (a b : Int) : Int := -((-a) / b)
theorem tx_gravity_ceil {n b : Int} (hn : v_fit n) (hb : 0 < b) : s_gravity_ceil n b = v_ceil n b := by
  unfold v_fit at hn
  unfold s_gravity_ceil v_ceil
  rw [wrap_id (n := 0 - n) (by omega) (by omega), show (0 : Int) - n = -n by omega]
  have h : ((-n) / b).natAbs ≤ (-n).natAbs := Int.natAbs_ediv_le_natAbs _ _
  have h2 : -n / b ≤ 9223372036854775807 := by omega
  have h3 : -9223372036854775808 ≤ -n / b := by omega
  rw [wrap_id (n := 0 - -n / b) (by omega) (by omega)]; omega
abbrev t_gravity_ceil (p0 p1 : Int) : Int := v_ceil p0 p1
abbrev qre_gravity_ceil (p0 p1 : Int) : List Prop := [v_fit p0, 0 < p1]
theorem pp_gravity_ceil (p0 p1 : Int) (hq : ∀ p ∈ qre_gravity_ceil p0 p1, p) : ∀ p ∈ pre_gravity_ceil p0 p1, p := by
  obtain ⟨h1, h2, _⟩ := conj_of hq
  unfold v_fit at h1
  simp only [pre_gravity_ceil, List.forall_mem_cons, wrap_id (n := 0 - p0) (by omega) (by omega)]
  exact ⟨by unfold v_fit; omega, h2, by simp⟩
theorem tt_gravity_ceil (p0 p1 : Int) (hq : ∀ p ∈ qre_gravity_ceil p0 p1, p) : s_gravity_ceil p0 p1 = t_gravity_ceil p0 p1 := tx_gravity_ceil (conj_of hq).1 (conj_of hq).2.1

abbrev con_gravity_ceil : Con := ⟨P_gravity_ceil, R_gravity_ceil, fun x => qre_gravity_ceil x.1 x.2, fun x => t_gravity_ceil x.1 x.2⟩
theorem ok_gravity_ceil : ConOk Tryd.prog 118 con_gravity_ceil := ⟨k_gravity_ceil, fun x hx => ret_tf (ps := P_gravity_ceil) (rs := R_gravity_ceil) (x := x) (y := t_gravity_ceil x.1 x.2) e_gravity_ceil hC_gravity_ceil (tf_of (w_gravity_ceil_eq x.1 x.2 (fun z => z = t_gravity_ceil x.1 x.2)) (d_gravity_ceil x.1 x.2 (fun z => z = t_gravity_ceil x.1 x.2) (pp_gravity_ceil x.1 x.2 hx) (tt_gravity_ceil x.1 x.2 hx)))⟩
/- gravity_Filtered -/
def C_gravity_Filtered : Cons := [(75, [], con_gravity_CheckFilter), (99, [], con_gravity_rangesErr), (88, [], con_gravity_first), (90, [], con_gravity_both_p), (116, [], con_gravity_sum), (100, [], con_gravity_windows), (130, itMark, con_gravity_windows_1), (101, [], con_gravity_linear), (117, [], con_gravity_floor), (118, [], con_gravity_ceil)]
theorem hC_gravity_Filtered : ConsOk Tryd.prog C_gravity_Filtered := ConsOk.cons ok_gravity_CheckFilter <| ConsOk.cons ok_gravity_rangesErr <| ConsOk.cons ok_gravity_first <| ConsOk.cons ok_gravity_both_p <| ConsOk.cons ok_gravity_sum <| ConsOk.cons ok_gravity_windows <| ConsOk.consI ok_gravity_windows_1 <| ConsOk.cons ok_gravity_linear <| ConsOk.cons ok_gravity_floor <| ConsOk.cons ok_gravity_ceil <| ConsOk.nil
def w_gravity_Filtered (p0 : (List Int)) (p1 : (List (Int × Int))) (K : ((List (Int × Int)) × Int) → Prop) : Prop :=
  ((lenOk p0) ∧
  ((lenOk ((v_filerr p0) :: ((s_gravity_rangesErr p1) :: ([] : List Int)))) ∧
  (((((v_first ((v_filerr p0) :: ((s_gravity_rangesErr p1) :: ([] : List Int)))) != (0 : Int)) = true) →
  (K (([] : List (Int × Int)), (v_first ((v_filerr p0) :: ((s_gravity_rangesErr p1) :: ([] : List Int))))))) ∧
  ((((v_first ((v_filerr p0) :: ((s_gravity_rangesErr p1) :: ([] : List Int)))) != (0 : Int)) = false) →
  (((1 ≤ (List.length p0)) ∧
    ((List.length p0) ≤ 1000000)) ∧
    ((v_fw p0) ∧
    (((1 : Int) ≤ (((List.length (v_both p0)) : Nat) : Int)) ∧
    (((((List.length (v_both p0)) : Nat) : Int) ≤ (1000000 : Int)) ∧
    (((List.length p1) ≤ 1000000) ∧
    (RngP (fun (y0 : (List (Int × Int))) (z1 : (Int × (List (Int × Int)))) k2 =>
      ((v_linok (v_both p0) z1.2) ∧
      ((v_fit (v_lin (v_both p0) z1.2).1) ∧
      (((0 : Int) < (v_fsum p0)) ∧
      ((v_fit (v_lin (v_both p0) z1.2).2) ∧
      (((0 : Int) < (v_fsum p0)) ∧
      (((((List.length y0) + (List.length ((((v_lin (v_both p0) z1.2).1 / (v_fsum p0)), (v_ceil (v_lin (v_both p0) z1.2).2 (v_fsum p0))) :: ([] : List (Int × Int))))) * 16) ≤ 140737488355328) ∧
      (k2 (y0 ++ ((((v_lin (v_both p0) z1.2).1 / (v_fsum p0)), (v_ceil (v_lin (v_both p0) z1.2).2 (v_fsum p0))) :: ([] : List (Int × Int))))))))))))
      (fun (s3 : (List (Int × Int))) => (K (s3, (0 : Int)))) (v_windows p1 (((List.length (v_both p0)) : Nat) : Int)) ([] : List (Int × Int))))))))))))
set_option maxHeartbeats 4000000 in
theorem w_gravity_Filtered_eq (p0 : (List Int)) (p1 : (List (Int × Int))) (K : ((List (Int × Int)) × Int) → Prop) : tfn F_gravity_Filtered A_gravity_Filtered C_gravity_Filtered P_gravity_Filtered R_gravity_Filtered (p0, p1) K = w_gravity_Filtered p0 p1 K := by kernel_rfl
def st_gravity_Filtered_0 (p0 : (List Int)) (p1 : (List (Int × Int))) (y1 : (List (Int × Int))) (z1 : (Int × (List (Int × Int)))) : (List (Int × Int)) ⊕ ((List (Int × Int)) × Int) :=
  (Sum.inl (y1 ++ ((((v_lin (v_both p0) z1.2).1 / (v_fsum p0)), (v_ceil (v_lin (v_both p0) z1.2).2 (v_fsum p0))) :: ([] : List (Int × Int)))))
abbrev sp_gravity_Filtered_0 (p0 : (List Int)) (p1 : (List (Int × Int))) (y1 : (List (Int × Int))) (z1 : (Int × (List (Int × Int)))) : List Prop := [(v_linok (v_both p0) z1.2),
    (v_fit (v_lin (v_both p0) z1.2).1),
    ((0 : Int) < (v_fsum p0)),
    (v_fit (v_lin (v_both p0) z1.2).2),
    ((((List.length y1) + (List.length ((((v_lin (v_both p0) z1.2).1 / (v_fsum p0)), (v_ceil (v_lin (v_both p0) z1.2).2 (v_fsum p0))) :: ([] : List (Int × Int))))) * 16) ≤ 140737488355328)]
def sf_gravity_Filtered_0 (p0 : (List Int)) (p1 : (List (Int × Int))) (s1 : (List (Int × Int))) : ((List (Int × Int)) × Int) :=
  (s1, (0 : Int))
abbrev sq_gravity_Filtered_0 (p0 : (List Int)) (p1 : (List (Int × Int))) (s1 : (List (Int × Int))) : List Prop := []
def s_gravity_Filtered (p0 : (List Int)) (p1 : (List (Int × Int))) : ((List (Int × Int)) × Int) :=
  (cond ((v_first ((v_filerr p0) :: ((s_gravity_rangesErr p1) :: ([] : List Int)))) != (0 : Int)) (([] : List (Int × Int)), (v_first ((v_filerr p0) :: ((s_gravity_rangesErr p1) :: ([] : List Int)))))
    (rngV (st_gravity_Filtered_0 p0 p1) (sf_gravity_Filtered_0 p0 p1) (v_windows p1 (((List.length (v_both p0)) : Nat) : Int)) ([] : List (Int × Int))))
abbrev pre_gravity_Filtered (p0 : (List Int)) (p1 : (List (Int × Int))) : List Prop := [(lenOk p0),
    ((((v_first ((v_filerr p0) :: ((s_gravity_rangesErr p1) :: ([] : List Int)))) != (0 : Int)) = false) → ((1 ≤ (List.length p0)) ∧ ((List.length p0) ≤ 1000000))),
    ((((v_first ((v_filerr p0) :: ((s_gravity_rangesErr p1) :: ([] : List Int)))) != (0 : Int)) = false) → (v_fw p0)),
    ((((v_first ((v_filerr p0) :: ((s_gravity_rangesErr p1) :: ([] : List Int)))) != (0 : Int)) = false) → ((1 : Int) ≤ (((List.length (v_both p0)) : Nat) : Int))),
    ((((v_first ((v_filerr p0) :: ((s_gravity_rangesErr p1) :: ([] : List Int)))) != (0 : Int)) = false) → ((((List.length (v_both p0)) : Nat) : Int) ≤ (1000000 : Int))),
    ((((v_first ((v_filerr p0) :: ((s_gravity_rangesErr p1) :: ([] : List Int)))) != (0 : Int)) = false) → ((List.length p1) ≤ 1000000)),
    ((((v_first ((v_filerr p0) :: ((s_gravity_rangesErr p1) :: ([] : List Int)))) != (0 : Int)) = false) → (OkR (st_gravity_Filtered_0 p0 p1) (sp_gravity_Filtered_0 p0 p1) (sq_gravity_Filtered_0 p0 p1) (v_windows p1 (((List.length (v_both p0)) : Nat) : Int)) ([] : List (Int × Int))))]
set_option maxHeartbeats 4000000 in
theorem d_gravity_Filtered (p0 : (List Int)) (p1 : (List (Int × Int))) (K : ((List (Int × Int)) × Int) → Prop) (hp : ∀ p ∈ pre_gravity_Filtered p0 p1, p) (h : K (s_gravity_Filtered p0 p1)) : w_gravity_Filtered p0 p1 K := by
  unfold w_gravity_Filtered
  unfold s_gravity_Filtered at h
  obtain ⟨hp0, hp1, hp2, hp3, hp4, hp5, hp6, _⟩ := conj_of hp
  exact ⟨(hp0), ⟨(lenOk_of 2 rfl (by decide)), (br' h (fun e0 h => h)
    (fun e0 h => ⟨(hp1 e0), ⟨(hp2 e0), ⟨(hp3 e0), ⟨(hp4 e0), ⟨(hp5 e0), (rng_gen (hp6 e0) h (fun y1 z1 k1 hp h => by
  unfold st_gravity_Filtered_0 at h; obtain ⟨hp0, hp1, hp2, hp3, hp4, _⟩ := conj_of hp
  exact ⟨(hp0), ⟨(hp1), ⟨(hp2), ⟨(hp3), ⟨(hp2), ⟨(hp4), h⟩⟩⟩⟩⟩⟩) (fun s1 hp h => by
  unfold sf_gravity_Filtered_0 at h
  exact h))⟩⟩⟩⟩⟩))⟩⟩
theorem v_lin_in {m : Int} (hm : 0 ≤ m) : ∀ (ws : List Int) (xs : List (Int × Int)), (∀ w ∈ ws, -m ≤ w ∧ w ≤ m) → (∀ x ∈ xs, (-1000000 ≤ x.1 ∧ x.1 ≤ 1000000) ∧ (-1000000 ≤ x.2 ∧ x.2 ≤ 1000000)) → (-(ws.length * (m * 1000000)) ≤ (v_lin ws xs).1 ∧ (v_lin ws xs).1 ≤ ws.length * (m * 1000000)) ∧ (-(ws.length * (m * 1000000)) ≤ (v_lin ws xs).2 ∧ (v_lin ws xs).2 ≤ ws.length * (m * 1000000))
  | [], xs, _, _ => by simp [v_lin]
  | w :: ws, [], _, _ => by
    have h0 : 0 ≤ m * 1000000 := by omega
    have : 0 ≤ ((w :: ws).length : Int) * (m * 1000000) := Int.mul_nonneg (by omega) h0
    simp only [v_lin]; omega
  | w :: ws, x :: xs, hw, hx => by
    have ih := v_lin_in hm ws xs (fun y hy => hw y (by simp [hy])) (fun y hy => hx y (by simp [hy]))
    have h1 := v_prod (hw w (by simp)) (hx x (by simp)).1 hm
    have h2 := v_prod (hw w (by simp)) (hx x (by simp)).2 hm
    have e : ((w :: ws).length : Int) * (m * 1000000) = ws.length * (m * 1000000) + m * 1000000 := by
      rw [List.length_cons, show ((ws.length + 1 : Nat) : Int) = (ws.length : Int) + 1 by omega, Int.add_mul, Int.one_mul]
    rw [e]
    simp only [v_lin]
    omega
theorem v_both_all {f : List Int} {m : Int} (h : ∀ x ∈ f, -m ≤ x ∧ x ≤ m) : ∀ x ∈ v_both f, -m ≤ x ∧ x ≤ m := by
  intro x hx
  unfold v_both at hx
  rcases List.mem_append.1 hx with hx | hx
  · exact h x (List.mem_reverse.1 hx)
  · exact h x (List.mem_of_mem_drop hx)
theorem v_win_in {l : List (Int × Int)} {c : Nat} {z : Int × List (Int × Int)} (hz : z ∈ v_windows l c) (h1 : 1 ≤ c) : z.2.length = c ∧ (∀ x ∈ z.2, x ∈ l) ∧ 0 ≤ z.1 ∧ z.1 + c ≤ l.length := by
  unfold v_windows at hz
  obtain ⟨k, hk, rfl⟩ := List.mem_map.1 hz
  rw [List.mem_range] at hk
  refine ⟨by simp only [List.length_take, List.length_drop]; omega, fun x hx => List.mem_of_mem_drop (List.mem_of_mem_take hx), by simp only; omega, by simp only; omega⟩
/-- A filtered list. -/
def v_fil (p0 : List Int) (p1 : List (Int × Int)) : List (Int × Int) := (v_windows p1 ((v_both p0).length : Nat)).map fun z => ((v_lin (v_both p0) z.2).1 / v_fsum p0, v_ceil (v_lin (v_both p0) z.2).2 (v_fsum p0))
theorem l_gravity_Filtered (p0 : List Int) (p1 : List (Int × Int)) (h : v_fok p0) (hl : v_hok p1) : OkR (st_gravity_Filtered_0 p0 p1) (sp_gravity_Filtered_0 p0 p1) (sq_gravity_Filtered_0 p0 p1) (v_windows p1 ((v_both p0).length : Nat)) [] ∧ rngV (st_gravity_Filtered_0 p0 p1) (sf_gravity_Filtered_0 p0 p1) (v_windows p1 ((v_both p0).length : Nat)) [] = (v_fil p0 p1, 0) := by
  have hlen := hl.len
  have h1 := h.one
  have h9 := h.nine
  have hb := v_both_len h1
  have hall := v_both_all h.all
  have key : ∀ z, z ∈ v_windows p1 ((v_both p0).length : Nat) → v_linok (v_both p0) z.2 ∧ v_fit (v_lin (v_both p0) z.2).1 ∧ v_fit (v_lin (v_both p0) z.2).2 := by
    intro z hz
    obtain ⟨g1, g2, _⟩ := v_win_in hz (by omega)
    have gx : ∀ x ∈ z.2, (-1000000 ≤ x.1 ∧ x.1 ≤ 1000000) ∧ (-1000000 ≤ x.2 ∧ x.2 ≤ 1000000) := fun x hx => ⟨(hl.all x (g2 x hx)).1, (hl.all x (g2 x hx)).2.1⟩
    have hi := v_lin_in (m := 100000) (by decide) (v_both p0) z.2 hall gx
    refine ⟨⟨by omega, by omega, fun x hx => by have := hall x hx; omega, gx⟩, ?_, ?_⟩ <;> unfold v_fit <;> omega
  have := rng_map (st := st_gravity_Filtered_0 p0 p1) (sp := sp_gravity_Filtered_0 p0 p1) (fin := sf_gravity_Filtered_0 p0 p1) (fp := sq_gravity_Filtered_0 p0 p1) (fun z => ((v_lin (v_both p0) z.2).1 / v_fsum p0, v_ceil (v_lin (v_both p0) z.2).2 (v_fsum p0))) (v_windows p1 ((v_both p0).length : Nat)) (by unfold v_windows; simp; omega) (fun y z _ => rfl) ?_ (by simp)
  · exact this
  · intro y z hz hy
    obtain ⟨g1, g2, g3⟩ := key z hz
    simp only [sp_gravity_Filtered_0, List.forall_mem_cons]
    have hp := h.pos
    exact ⟨g1, g2, hp, g3, by simp; omega, by simp⟩
/-- The error of a filter and a list. -/
def v_flerr (p0 : List Int) (p1 : List (Int × Int)) : Int := v_first [v_filerr p0, s_gravity_rangesErr p1]
theorem tx_flerr {p0 : List Int} {p1 : List (Int × Int)} (h : v_flerr p0 p1 = 0) : v_fok p0 ∧ v_hok p1 := by
  obtain ⟨h1, h⟩ := v_first0 h
  obtain ⟨h2, _⟩ := v_first0 h
  exact ⟨tx_fok h1, tx_heights (show (v_heights p1).2 = 0 from h2)⟩
abbrev t_gravity_Filtered (p0 : List Int) (p1 : List (Int × Int)) : List (Int × Int) × Int := cond (v_flerr p0 p1 != 0) ([], v_flerr p0 p1) (v_fil p0 p1, 0)
abbrev qre_gravity_Filtered (p0 : List Int) (_ : List (Int × Int)) : List Prop := [lenOk p0]
theorem pp_gravity_Filtered (p0 : List Int) (p1 : List (Int × Int)) (hq : ∀ p ∈ qre_gravity_Filtered p0 p1, p) : ∀ p ∈ pre_gravity_Filtered p0 p1, p := by
  simp only [pre_gravity_Filtered, List.forall_mem_cons]
  have key : (v_flerr p0 p1 != 0) = false → v_fok p0 ∧ v_hok p1 := fun h => tx_flerr (bne0' h)
  have k1 : (v_flerr p0 p1 != 0) = false → 1 ≤ p0.length ∧ p0.length ≤ 9 ∧ (v_both p0).length = 2 * p0.length - 1 := fun h => ⟨(key h).1.one, (key h).1.nine, v_both_len (key h).1.one⟩
  exact ⟨(conj_of hq).1, fun h => by have := k1 h; omega, fun h => (key h).1.tov_fw, fun h => by have := k1 h; omega, fun h => by have := k1 h; omega, fun h => by have := (key h).2.len; omega, fun h => (l_gravity_Filtered p0 p1 (key h).1 (key h).2).1, by simp⟩
theorem tt_gravity_Filtered (p0 : List Int) (p1 : List (Int × Int)) (_ : ∀ p ∈ qre_gravity_Filtered p0 p1, p) : s_gravity_Filtered p0 p1 = t_gravity_Filtered p0 p1 := by
  show cond (v_flerr p0 p1 != 0) _ _ = _
  unfold t_gravity_Filtered
  cases h : (v_flerr p0 p1 != 0)
  · obtain ⟨k1, k2⟩ := tx_flerr (bne0' h)
    exact (l_gravity_Filtered p0 p1 k1 k2).2
  · rfl

abbrev con_gravity_Filtered : Con := ⟨P_gravity_Filtered, R_gravity_Filtered, fun x => qre_gravity_Filtered x.1 x.2, fun x => t_gravity_Filtered x.1 x.2⟩
theorem ok_gravity_Filtered : ConOk Tryd.prog 64 con_gravity_Filtered := ⟨k_gravity_Filtered, fun x hx => ret_tf (ps := P_gravity_Filtered) (rs := R_gravity_Filtered) (x := x) (y := t_gravity_Filtered x.1 x.2) e_gravity_Filtered hC_gravity_Filtered (tf_of (w_gravity_Filtered_eq x.1 x.2 (fun z => z = t_gravity_Filtered x.1 x.2)) (d_gravity_Filtered x.1 x.2 (fun z => z = t_gravity_Filtered x.1 x.2) (pp_gravity_Filtered x.1 x.2 hx) (tt_gravity_Filtered x.1 x.2 hx)))⟩
/- base_Within -/
def C_base_Within : Cons := []
theorem hC_base_Within : ConsOk Tryd.prog C_base_Within := ConsOk.nil
def w_base_Within (p0 : Int) (p1 : Int) (p2 : Int) (K : Bool → Prop) : Prop :=
  ((((decide (p1 ≤ p0)) = true) →
  ((decide (p1 ≤ p0)) = (decide (p1 ≤ p0)))) ∧
  ((((decide (p1 ≤ p0)) = true) →
  ((decide (p1 ≤ p0)) = (decide (p1 ≤ p0)))) ∧
  (((decide (p1 ≤ p0)) = (decide (p1 ≤ p0))) ∧
  (K (cond (decide (p1 ≤ p0)) (decide (p0 ≤ p2)) false)))))
set_option maxHeartbeats 4000000 in
theorem w_base_Within_eq (p0 : Int) (p1 : Int) (p2 : Int) (K : Bool → Prop) : tfn F_base_Within A_base_Within C_base_Within P_base_Within R_base_Within (p0, p1, p2) K = w_base_Within p0 p1 p2 K := by kernel_rfl
def s_base_Within (p0 : Int) (p1 : Int) (p2 : Int) : Bool :=
  (cond (decide (p1 ≤ p0)) (decide (p0 ≤ p2)) false)
abbrev pre_base_Within (p0 : Int) (p1 : Int) (p2 : Int) : List Prop := []
set_option maxHeartbeats 4000000 in
theorem d_base_Within (p0 : Int) (p1 : Int) (p2 : Int) (K : Bool → Prop) (hp : ∀ p ∈ pre_base_Within p0 p1 p2, p) (h : K (s_base_Within p0 p1 p2)) : w_base_Within p0 p1 p2 K := by
  unfold w_base_Within
  unfold s_base_Within at h
  exact ⟨(fun _ => rfl), ⟨(fun _ => rfl), ⟨rfl, h⟩⟩⟩
abbrev con_base_Within : Con := ⟨P_base_Within, R_base_Within, fun x => pre_base_Within x.1 x.2.1 x.2.2, fun x => s_base_Within x.1 x.2.1 x.2.2⟩
theorem ok_base_Within : ConOk Tryd.prog 60 con_base_Within := ⟨k_base_Within, fun x hx => ret_tf (ps := P_base_Within) (rs := R_base_Within) (x := x) (y := s_base_Within x.1 x.2.1 x.2.2) e_base_Within hC_base_Within (tf_of (w_base_Within_eq x.1 x.2.1 x.2.2 (fun z => z = s_base_Within x.1 x.2.1 x.2.2)) (d_base_Within x.1 x.2.1 x.2.2 (fun z => z = s_base_Within x.1 x.2.1 x.2.2) hx rfl))⟩
/- ref05_Sum -/
def C_ref05_Sum : Cons := [(77, [], con_ref05_Gain)]
theorem hC_ref05_Sum : ConsOk Tryd.prog C_ref05_Sum := ConsOk.cons ok_ref05_Gain <| ConsOk.nil
def w_ref05_Sum (p0 : (List Int)) (K : Int → Prop) : Prop :=
  ((v_fw p0) ∧
  ((((0 : Int) ≤ (0 : Int)) ∧
  ((0 : Int) ≤ (3 : Int))) ∧
  (K (v_gain p0 (0 : Int)))))
set_option maxHeartbeats 4000000 in
theorem w_ref05_Sum_eq (p0 : (List Int)) (K : Int → Prop) : tfn F_ref05_Sum A_ref05_Sum C_ref05_Sum P_ref05_Sum R_ref05_Sum p0 K = w_ref05_Sum p0 K := by kernel_rfl
def s_ref05_Sum (p0 : (List Int)) : Int :=
  (v_gain p0 (0 : Int))
abbrev pre_ref05_Sum (p0 : (List Int)) : List Prop := [(v_fw p0)]
set_option maxHeartbeats 4000000 in
theorem d_ref05_Sum (p0 : (List Int)) (K : Int → Prop) (hp : ∀ p ∈ pre_ref05_Sum p0, p) (h : K (s_ref05_Sum p0)) : w_ref05_Sum p0 K := by
  unfold w_ref05_Sum
  unfold s_ref05_Sum at h
  obtain ⟨hp0, _⟩ := conj_of hp
  exact ⟨(hp0), ⟨(of_decide_eq_true rfl), h⟩⟩
abbrev t_ref05_Sum (p0 : List Int) : Int := v_fsum p0
abbrev qre_ref05_Sum (p0 : List Int) : List Prop := [v_fw p0]
theorem pp_ref05_Sum (p0 : List Int) (hq : ∀ p ∈ qre_ref05_Sum p0, p) : ∀ p ∈ pre_ref05_Sum p0, p := by
  simp only [pre_ref05_Sum, List.forall_mem_cons]
  exact ⟨(conj_of hq).1, by simp⟩
theorem tt_ref05_Sum (p0 : List Int) (_ : ∀ p ∈ qre_ref05_Sum p0, p) : s_ref05_Sum p0 = t_ref05_Sum p0 := v_gain0 p0

abbrev con_ref05_Sum : Con := ⟨P_ref05_Sum, R_ref05_Sum, fun x => qre_ref05_Sum x, fun x => t_ref05_Sum x⟩
theorem ok_ref05_Sum : ConOk Tryd.prog 76 con_ref05_Sum := ⟨k_ref05_Sum, fun x hx => ret_tf (ps := P_ref05_Sum) (rs := R_ref05_Sum) (x := x) (y := t_ref05_Sum x) e_ref05_Sum hC_ref05_Sum (tf_of (w_ref05_Sum_eq x (fun z => z = t_ref05_Sum x)) (d_ref05_Sum x (fun z => z = t_ref05_Sum x) (pp_ref05_Sum x hx) (tt_ref05_Sum x hx)))⟩
/- ref05_FilterErr -/
def C_ref05_FilterErr : Cons := [(60, [], con_base_Within), (76, [], con_ref05_Sum)]
theorem hC_ref05_FilterErr : ConsOk Tryd.prog C_ref05_FilterErr := ConsOk.cons ok_base_Within <| ConsOk.cons ok_ref05_Sum <| ConsOk.nil
def w_ref05_FilterErr (p0 : (List Int)) (K : Int → Prop) : Prop :=
  (((((((List.length p0) : Nat) : Int) == (0 : Int)) = true) →
  (K (10 : Int))) ∧
  ((((((List.length p0) : Nat) : Int) == (0 : Int)) = false) →
  ((((decide ((((List.length p0) : Nat) : Int) > (9 : Int))) = true) →
    (K (8 : Int))) ∧
    (((decide ((((List.length p0) : Nat) : Int) > (9 : Int))) = false) →
    (∃ n0, (loopP (fun (y1 : Int) k2 =>
        ((((decide (y1 < (((List.length p0) : Nat) : Int))) = true) →
        (((0 : Int) ≤ y1) ∧
          ((y1 < (((List.length p0) : Nat) : Int)) ∧
          ((((!(s_base_Within (List.getD p0 (Int.toNat y1) (0 : Int)) (-100000 : Int) (100000 : Int))) = true) →
          (K (2 : Int))) ∧
          (((!(s_base_Within (List.getD p0 (Int.toNat y1) (0 : Int)) (-100000 : Int) (100000 : Int))) = false) →
          (k2 (Go.IntKind.wrap .i64 (y1 + (1 : Int))))))))) ∧
        (((decide (y1 < (((List.length p0) : Nat) : Int))) = false) →
        ((v_fw p0) ∧
          ((((decide ((v_fsum p0) < (1 : Int))) = true) →
          (K (11 : Int))) ∧
          (((decide ((v_fsum p0) < (1 : Int))) = false) →
          (K (0 : Int)))))))) n0 (0 : Int)))))))
set_option maxHeartbeats 4000000 in
theorem w_ref05_FilterErr_eq (p0 : (List Int)) (K : Int → Prop) : tfn F_ref05_FilterErr A_ref05_FilterErr C_ref05_FilterErr P_ref05_FilterErr R_ref05_FilterErr p0 K = w_ref05_FilterErr p0 K := by kernel_rfl
def st_ref05_FilterErr_0 (p0 : (List Int)) (y2 : Int) : Int ⊕ Int :=
  (cond (decide (y2 < (((List.length p0) : Nat) : Int))) (cond (!(s_base_Within (List.getD p0 (Int.toNat y2) (0 : Int)) (-100000 : Int) (100000 : Int))) (Sum.inr (2 : Int))
    (Sum.inl (Go.IntKind.wrap .i64 (y2 + (1 : Int)))))
    (cond (decide ((v_fsum p0) < (1 : Int))) (Sum.inr (11 : Int))
    (Sum.inr (0 : Int))))
abbrev sp_ref05_FilterErr_0 (p0 : (List Int)) (y2 : Int) : List Prop := [(((decide (y2 < (((List.length p0) : Nat) : Int))) = true) → ((0 : Int) ≤ y2)),
    (((decide (y2 < (((List.length p0) : Nat) : Int))) = true) → (y2 < (((List.length p0) : Nat) : Int))),
    (((decide (y2 < (((List.length p0) : Nat) : Int))) = false) → (v_fw p0))]
def s_ref05_FilterErr (p0 : (List Int)) : Int :=
  (cond ((((List.length p0) : Nat) : Int) == (0 : Int)) (10 : Int)
    (cond (decide ((((List.length p0) : Nat) : Int) > (9 : Int))) (8 : Int)
    (lpv (0 : Int) (st_ref05_FilterErr_0 p0) (0 : Int))))
abbrev pre_ref05_FilterErr (p0 : (List Int)) : List Prop := [((((((List.length p0) : Nat) : Int) == (0 : Int)) = false) → (((decide ((((List.length p0) : Nat) : Int) > (9 : Int))) = false) → (OkL (st_ref05_FilterErr_0 p0) (sp_ref05_FilterErr_0 p0) (0 : Int))))]
set_option maxHeartbeats 4000000 in
theorem d_ref05_FilterErr (p0 : (List Int)) (K : Int → Prop) (hp : ∀ p ∈ pre_ref05_FilterErr p0, p) (h : K (s_ref05_FilterErr p0)) : w_ref05_FilterErr p0 K := by
  unfold w_ref05_FilterErr
  unfold s_ref05_FilterErr at h
  obtain ⟨hp0, _⟩ := conj_of hp
  exact (br' h (fun e0 h => h)
    (fun e0 h => (br' h (fun e1 h => h)
    (fun e1 h => (loop_gen (hp0 e0 e1) h (fun y2 k2 hp h => by
  unfold st_ref05_FilterErr_0 at h; obtain ⟨hp0, hp1, hp2, _⟩ := conj_of hp
  exact (br' h (fun e3 h => ⟨(hp0 e3), ⟨(hp1 e3), (br' h (fun e4 h => h)
    (fun e4 h => h))⟩⟩)
    (fun e3 h => ⟨(hp2 e3), (br' h (fun e5 h => h)
    (fun e5 h => h))⟩))))))))
theorem tx_filerr {p0 : List Int} (h1 : 1 ≤ p0.length) (h9 : p0.length ≤ 9) : v_filerr p0 = cond (v_any_slices_ContainsFuncint_int__gravity_CheckFilter_1 p0) 2 (s_gravity_unless (decide (v_fsum p0 > 0)) 11) := by
  unfold v_filerr v_fw0
  rw [decide_eq_true (show (p0.length : Int) > 0 by omega), decide_eq_true (show (p0.length : Int) ≤ 9 by omega)]
  cases v_any_slices_ContainsFuncint_int__gravity_CheckFilter_1 p0 <;> rfl
theorem l_ref05_FilterErr (p0 : List Int) (h1 : 1 ≤ p0.length) (h9 : p0.length ≤ 9) : OkL (st_ref05_FilterErr_0 p0) (sp_ref05_FilterErr_0 p0) 0 ∧ lpv 0 (st_ref05_FilterErr_0 p0) 0 = v_filerr p0 := by
  have hc : ∀ x, (!(s_base_Within x (-100000) 100000)) = s_gravity_CheckFilter_1 x := fun x => rfl
  refine for_is (fun i (_ : Unit) => i) 0 p0.length (fun j _ => ∀ k, k < j → s_gravity_CheckFilter_1 (p0.getD k 0) = false) (fun _ _ => v_filerr p0) (by omega) (by omega) ?_ ?_ () (fun k hk => by omega)
  · intro t hi
    have hd : decide ((p0.length : Int) < (p0.length : Nat)) = false := decide_eq_false (by omega)
    have ha : v_any_slices_ContainsFuncint_int__gravity_CheckFilter_1 p0 = false := by
      refine List.any_eq_false.2 fun x hx => ?_
      obtain ⟨k, hk, rfl⟩ := List.mem_iff_getElem.1 hx
      rw [← gd_get 0 hk, hi k hk]; simp
    have hw : v_fw p0 := by
      refine ⟨h1, h9, fun x hx => ?_⟩
      have := List.any_eq_false.1 ha x hx
      exact tx_sized.1 (by simpa [s_gravity_CheckFilter_1] using this)
    refine ⟨by simp only [sp_ref05_FilterErr_0, List.forall_mem_cons, decide_eq_true_eq]; exact ⟨fun h => by omega, fun h => by omega, fun _ => hw, by simp⟩, ?_⟩
    simp only [st_ref05_FilterErr_0, hd, cond_false]
    rw [tx_filerr h1 h9, ha]
    rcases Int.lt_or_le (v_fsum p0) 1 with c | c
    · rw [decide_eq_true c, decide_eq_false (by omega)]; rfl
    · rw [decide_eq_false (by omega), decide_eq_true (by omega)]; rfl
  · intro j t _ hj hi
    have hd : decide ((j : Int) < (p0.length : Nat)) = true := decide_eq_true (by omega)
    refine ⟨by simp only [sp_ref05_FilterErr_0, List.forall_mem_cons, decide_eq_true_eq, decide_eq_false_iff_not]; exact ⟨fun _ => by omega, fun _ => by omega, fun h => absurd hj (by omega), by simp⟩, ?_⟩
    simp only [st_ref05_FilterErr_0, hd, cond_true, hc, Int.toNat_natCast]
    cases c : s_gravity_CheckFilter_1 (p0.getD j 0)
    · refine .inl ⟨(), by rw [wrap_nat (by omega)]; rfl, fun k hk => ?_, trivial⟩
      by_cases e : k = j
      · rw [e]; exact c
      · exact hi k (by omega)
    · refine .inr ?_
      rw [tx_filerr h1 h9, show v_any_slices_ContainsFuncint_int__gravity_CheckFilter_1 p0 = true from List.any_eq_true.2 ⟨_, getD_mem' 0 hj, c⟩]; rfl
abbrev t_ref05_FilterErr (p0 : List Int) : Int := v_filerr p0
abbrev qre_ref05_FilterErr (_ : List Int) : List Prop := []
theorem l_ref05_FilterErr0 {p0 : List Int} (h : ((p0.length : Int) == 0) = false) (h2 : decide ((p0.length : Int) > 9) = false) : 1 ≤ p0.length ∧ p0.length ≤ 9 := by
  have e1 : ¬ (p0.length : Int) = 0 := by simpa using h
  have e2 := of_decide_eq_false h2
  omega
theorem pp_ref05_FilterErr (p0 : List Int) (_ : ∀ p ∈ qre_ref05_FilterErr p0, p) : ∀ p ∈ pre_ref05_FilterErr p0, p := by
  simp only [pre_ref05_FilterErr, List.forall_mem_cons]
  exact ⟨fun h h2 => (l_ref05_FilterErr p0 (l_ref05_FilterErr0 h h2).1 (l_ref05_FilterErr0 h h2).2).1, by simp⟩
theorem tt_ref05_FilterErr (p0 : List Int) (_ : ∀ p ∈ qre_ref05_FilterErr p0, p) : s_ref05_FilterErr p0 = t_ref05_FilterErr p0 := by
  unfold s_ref05_FilterErr t_ref05_FilterErr
  cases h : ((p0.length : Int) == 0)
  · cases h2 : decide ((p0.length : Int) > 9)
    · exact (l_ref05_FilterErr p0 (l_ref05_FilterErr0 h h2).1 (l_ref05_FilterErr0 h h2).2).2
    · have := of_decide_eq_true h2
      unfold v_filerr v_fw0
      rw [decide_eq_true (show (p0.length : Int) > 0 by omega), decide_eq_false (show ¬ (p0.length : Int) ≤ 9 by omega)]; rfl
  · have : (p0.length : Int) = 0 := by simpa using h
    unfold v_filerr v_fw0
    rw [this]; rfl

abbrev con_ref05_FilterErr : Con := ⟨P_ref05_FilterErr, R_ref05_FilterErr, fun x => qre_ref05_FilterErr x, fun x => t_ref05_FilterErr x⟩
theorem ok_ref05_FilterErr : ConOk Tryd.prog 20 con_ref05_FilterErr := ⟨k_ref05_FilterErr, fun x hx => ret_tf (ps := P_ref05_FilterErr) (rs := R_ref05_FilterErr) (x := x) (y := t_ref05_FilterErr x) e_ref05_FilterErr hC_ref05_FilterErr (tf_of (w_ref05_FilterErr_eq x (fun z => z = t_ref05_FilterErr x)) (d_ref05_FilterErr x (fun z => z = t_ref05_FilterErr x) (pp_ref05_FilterErr x hx) (tt_ref05_FilterErr x hx)))⟩
/- ref05_WithinErr -/
def C_ref05_WithinErr : Cons := [(60, [], con_base_Within)]
theorem hC_ref05_WithinErr : ConsOk Tryd.prog C_ref05_WithinErr := ConsOk.cons ok_base_Within <| ConsOk.nil
def w_ref05_WithinErr (p0 : Int) (p1 : Int) (K : Int → Prop) : Prop :=
  ((((!(s_base_Within p0 (0 : Int) p1)) = true) →
  (K (2 : Int))) ∧
  (((!(s_base_Within p0 (0 : Int) p1)) = false) →
  (K (0 : Int))))
set_option maxHeartbeats 4000000 in
theorem w_ref05_WithinErr_eq (p0 : Int) (p1 : Int) (K : Int → Prop) : tfn F_ref05_WithinErr A_ref05_WithinErr C_ref05_WithinErr P_ref05_WithinErr R_ref05_WithinErr (p0, p1) K = w_ref05_WithinErr p0 p1 K := by kernel_rfl
def s_ref05_WithinErr (p0 : Int) (p1 : Int) : Int :=
  (cond (!(s_base_Within p0 (0 : Int) p1)) (2 : Int)
    (0 : Int))
abbrev pre_ref05_WithinErr (p0 : Int) (p1 : Int) : List Prop := []
set_option maxHeartbeats 4000000 in
theorem d_ref05_WithinErr (p0 : Int) (p1 : Int) (K : Int → Prop) (hp : ∀ p ∈ pre_ref05_WithinErr p0 p1, p) (h : K (s_ref05_WithinErr p0 p1)) : w_ref05_WithinErr p0 p1 K := by
  unfold w_ref05_WithinErr
  unfold s_ref05_WithinErr at h
  exact (br' h (fun e0 h => h)
    (fun e0 h => h))
abbrev con_ref05_WithinErr : Con := ⟨P_ref05_WithinErr, R_ref05_WithinErr, fun x => pre_ref05_WithinErr x.1 x.2, fun x => s_ref05_WithinErr x.1 x.2⟩
theorem ok_ref05_WithinErr : ConOk Tryd.prog 63 con_ref05_WithinErr := ⟨k_ref05_WithinErr, fun x hx => ret_tf (ps := P_ref05_WithinErr) (rs := R_ref05_WithinErr) (x := x) (y := s_ref05_WithinErr x.1 x.2) e_ref05_WithinErr hC_ref05_WithinErr (tf_of (w_ref05_WithinErr_eq x.1 x.2 (fun z => z = s_ref05_WithinErr x.1 x.2)) (d_ref05_WithinErr x.1 x.2 (fun z => z = s_ref05_WithinErr x.1 x.2) hx rfl))⟩
/- ref05_rangeErr -/
def C_ref05_rangeErr : Cons := [(60, [], con_base_Within)]
theorem hC_ref05_rangeErr : ConsOk Tryd.prog C_ref05_rangeErr := ConsOk.cons ok_base_Within <| ConsOk.nil
def w_ref05_rangeErr (p0 : (Int × Int)) (p1 : Int) (K : Int → Prop) : Prop :=
  ((((!(s_base_Within p0.1 (Go.IntKind.wrap .i64 ((0 : Int) - p1)) p1)) = false) →
  ((!(s_base_Within p0.1 (Go.IntKind.wrap .i64 ((0 : Int) - p1)) p1)) = (!(s_base_Within p0.1 (Go.IntKind.wrap .i64 ((0 : Int) - p1)) p1)))) ∧
  ((((!(s_base_Within p0.1 (Go.IntKind.wrap .i64 ((0 : Int) - p1)) p1)) = false) →
  ((!(s_base_Within p0.1 (Go.IntKind.wrap .i64 ((0 : Int) - p1)) p1)) = (!(s_base_Within p0.1 (Go.IntKind.wrap .i64 ((0 : Int) - p1)) p1)))) ∧
  ((((!(s_base_Within p0.1 (Go.IntKind.wrap .i64 ((0 : Int) - p1)) p1)) = false) →
  ((!(s_base_Within p0.1 (Go.IntKind.wrap .i64 ((0 : Int) - p1)) p1)) = (!(s_base_Within p0.1 (Go.IntKind.wrap .i64 ((0 : Int) - p1)) p1)))) ∧
  ((((!(s_base_Within p0.1 (Go.IntKind.wrap .i64 ((0 : Int) - p1)) p1)) = false) →
  ((!(s_base_Within p0.1 (Go.IntKind.wrap .i64 ((0 : Int) - p1)) p1)) = (!(s_base_Within p0.1 (Go.IntKind.wrap .i64 ((0 : Int) - p1)) p1)))) ∧
  ((((!(s_base_Within p0.1 (Go.IntKind.wrap .i64 ((0 : Int) - p1)) p1)) = false) →
  ((!(s_base_Within p0.1 (Go.IntKind.wrap .i64 ((0 : Int) - p1)) p1)) = (!(s_base_Within p0.1 (Go.IntKind.wrap .i64 ((0 : Int) - p1)) p1)))) ∧
  ((((!(s_base_Within p0.1 (Go.IntKind.wrap .i64 ((0 : Int) - p1)) p1)) = false) →
  ((!(s_base_Within p0.1 (Go.IntKind.wrap .i64 ((0 : Int) - p1)) p1)) = (!(s_base_Within p0.1 (Go.IntKind.wrap .i64 ((0 : Int) - p1)) p1)))) ∧
  (((!(s_base_Within p0.1 (Go.IntKind.wrap .i64 ((0 : Int) - p1)) p1)) = (!(s_base_Within p0.1 (Go.IntKind.wrap .i64 ((0 : Int) - p1)) p1))) ∧
  ((((cond (!(s_base_Within p0.1 (Go.IntKind.wrap .i64 ((0 : Int) - p1)) p1)) true (!(s_base_Within p0.2 (Go.IntKind.wrap .i64 ((0 : Int) - p1)) p1))) = true) →
  (K (2 : Int))) ∧
  (((cond (!(s_base_Within p0.1 (Go.IntKind.wrap .i64 ((0 : Int) - p1)) p1)) true (!(s_base_Within p0.2 (Go.IntKind.wrap .i64 ((0 : Int) - p1)) p1))) = false) →
  ((((decide (p0.1 > p0.2)) = true) →
    (K (9 : Int))) ∧
    (((decide (p0.1 > p0.2)) = false) →
    (K (0 : Int)))))))))))))
set_option maxHeartbeats 4000000 in
theorem w_ref05_rangeErr_eq (p0 : (Int × Int)) (p1 : Int) (K : Int → Prop) : tfn F_ref05_rangeErr A_ref05_rangeErr C_ref05_rangeErr P_ref05_rangeErr R_ref05_rangeErr (p0, p1) K = w_ref05_rangeErr p0 p1 K := by kernel_rfl
def s_ref05_rangeErr (p0 : (Int × Int)) (p1 : Int) : Int :=
  (cond (cond (!(s_base_Within p0.1 (Go.IntKind.wrap .i64 ((0 : Int) - p1)) p1)) true (!(s_base_Within p0.2 (Go.IntKind.wrap .i64 ((0 : Int) - p1)) p1))) (2 : Int)
    (cond (decide (p0.1 > p0.2)) (9 : Int)
    (0 : Int)))
abbrev pre_ref05_rangeErr (p0 : (Int × Int)) (p1 : Int) : List Prop := []
set_option maxHeartbeats 4000000 in
theorem d_ref05_rangeErr (p0 : (Int × Int)) (p1 : Int) (K : Int → Prop) (hp : ∀ p ∈ pre_ref05_rangeErr p0 p1, p) (h : K (s_ref05_rangeErr p0 p1)) : w_ref05_rangeErr p0 p1 K := by
  unfold w_ref05_rangeErr
  unfold s_ref05_rangeErr at h
  exact ⟨(fun _ => rfl), ⟨(fun _ => rfl), ⟨(fun _ => rfl), ⟨(fun _ => rfl), ⟨(fun _ => rfl), ⟨(fun _ => rfl), ⟨rfl, (br' h (fun e0 h => h)
    (fun e0 h => (br' h (fun e1 h => h)
    (fun e1 h => h))))⟩⟩⟩⟩⟩⟩⟩
theorem tx_eqw {n lo hi : Int} : s_base_Within n lo hi = s_gravity_within n lo hi := rfl
abbrev t_ref05_rangeErr (p0 : Int × Int) (p1 : Int) : Int := s_gravity_rangeErr p0 p1
abbrev qre_ref05_rangeErr (_ : Int × Int) (_ : Int) : List Prop := []
theorem pp_ref05_rangeErr (p0 : Int × Int) (p1 : Int) (_ : ∀ p ∈ qre_ref05_rangeErr p0 p1, p) : ∀ p ∈ pre_ref05_rangeErr p0 p1, p := by intro p hp; simp at hp
theorem tt_ref05_rangeErr (p0 : Int × Int) (p1 : Int) (_ : ∀ p ∈ qre_ref05_rangeErr p0 p1, p) : s_ref05_rangeErr p0 p1 = t_ref05_rangeErr p0 p1 := by
  unfold s_ref05_rangeErr t_ref05_rangeErr s_gravity_rangeErr s_gravity_isSized
  simp only [tx_eqw]
  rcases Int.lt_or_le p0.2 p0.1 with h | h
  · have h' : ¬ p0.1 ≤ p0.2 := by omega
    cases s_gravity_within p0.1 (IntKind.i64.wrap (0 - p1)) p1 <;> cases s_gravity_within p0.2 (IntKind.i64.wrap (0 - p1)) p1 <;> simp [s_gravity_unless, v_first, h, h']
  · have h' : ¬ p0.2 < p0.1 := by omega
    cases s_gravity_within p0.1 (IntKind.i64.wrap (0 - p1)) p1 <;> cases s_gravity_within p0.2 (IntKind.i64.wrap (0 - p1)) p1 <;> simp [s_gravity_unless, v_first, h, h']

abbrev con_ref05_rangeErr : Con := ⟨P_ref05_rangeErr, R_ref05_rangeErr, fun x => qre_ref05_rangeErr x.1 x.2, fun x => t_ref05_rangeErr x.1 x.2⟩
theorem ok_ref05_rangeErr : ConOk Tryd.prog 103 con_ref05_rangeErr := ⟨k_ref05_rangeErr, fun x hx => ret_tf (ps := P_ref05_rangeErr) (rs := R_ref05_rangeErr) (x := x) (y := t_ref05_rangeErr x.1 x.2) e_ref05_rangeErr hC_ref05_rangeErr (tf_of (w_ref05_rangeErr_eq x.1 x.2 (fun z => z = t_ref05_rangeErr x.1 x.2)) (d_ref05_rangeErr x.1 x.2 (fun z => z = t_ref05_rangeErr x.1 x.2) (pp_ref05_rangeErr x.1 x.2 hx) (tt_ref05_rangeErr x.1 x.2 hx)))⟩
/- ref05_CheckHeights -/
def C_ref05_CheckHeights : Cons := [(103, [], con_ref05_rangeErr)]
theorem hC_ref05_CheckHeights : ConsOk Tryd.prog C_ref05_CheckHeights := ConsOk.cons ok_ref05_rangeErr <| ConsOk.nil
def w_ref05_CheckHeights (p0 : (List (Int × Int))) (K : (Int × Int) → Prop) : Prop :=
  ((((decide ((((List.length p0) : Nat) : Int) > (64 : Int))) = true) →
  (K ((0 : Int), (8 : Int)))) ∧
  (((decide ((((List.length p0) : Nat) : Int) > (64 : Int))) = false) →
  (∃ n0, (loopP (fun (y1 : Int) k2 =>
      ((((decide (y1 < (((List.length p0) : Nat) : Int))) = true) →
      (((0 : Int) ≤ y1) ∧
        ((y1 < (((List.length p0) : Nat) : Int)) ∧
        (((((s_gravity_rangeErr (List.getD p0 (Int.toNat y1) ((0 : Int), (0 : Int))) (1000000 : Int)) != (0 : Int)) = true) →
        (K (y1, (s_gravity_rangeErr (List.getD p0 (Int.toNat y1) ((0 : Int), (0 : Int))) (1000000 : Int))))) ∧
        ((((s_gravity_rangeErr (List.getD p0 (Int.toNat y1) ((0 : Int), (0 : Int))) (1000000 : Int)) != (0 : Int)) = false) →
        (k2 (Go.IntKind.wrap .i64 (y1 + (1 : Int))))))))) ∧
      (((decide (y1 < (((List.length p0) : Nat) : Int))) = false) →
      (K ((0 : Int), (0 : Int)))))) n0 (0 : Int)))))
set_option maxHeartbeats 4000000 in
theorem w_ref05_CheckHeights_eq (p0 : (List (Int × Int))) (K : (Int × Int) → Prop) : tfn F_ref05_CheckHeights A_ref05_CheckHeights C_ref05_CheckHeights P_ref05_CheckHeights R_ref05_CheckHeights p0 K = w_ref05_CheckHeights p0 K := by kernel_rfl
def st_ref05_CheckHeights_0 (p0 : (List (Int × Int))) (y1 : Int) : Int ⊕ (Int × Int) :=
  (cond (decide (y1 < (((List.length p0) : Nat) : Int))) (cond ((s_gravity_rangeErr (List.getD p0 (Int.toNat y1) ((0 : Int), (0 : Int))) (1000000 : Int)) != (0 : Int)) (Sum.inr (y1, (s_gravity_rangeErr (List.getD p0 (Int.toNat y1) ((0 : Int), (0 : Int))) (1000000 : Int))))
    (Sum.inl (Go.IntKind.wrap .i64 (y1 + (1 : Int)))))
    (Sum.inr ((0 : Int), (0 : Int))))
abbrev sp_ref05_CheckHeights_0 (p0 : (List (Int × Int))) (y1 : Int) : List Prop := [(((decide (y1 < (((List.length p0) : Nat) : Int))) = true) → ((0 : Int) ≤ y1)),
    (((decide (y1 < (((List.length p0) : Nat) : Int))) = true) → (y1 < (((List.length p0) : Nat) : Int)))]
def s_ref05_CheckHeights (p0 : (List (Int × Int))) : (Int × Int) :=
  (cond (decide ((((List.length p0) : Nat) : Int) > (64 : Int))) ((0 : Int), (8 : Int))
    (lpv ((0 : Int), (0 : Int)) (st_ref05_CheckHeights_0 p0) (0 : Int)))
abbrev pre_ref05_CheckHeights (p0 : (List (Int × Int))) : List Prop := [(((decide ((((List.length p0) : Nat) : Int) > (64 : Int))) = false) → (OkL (st_ref05_CheckHeights_0 p0) (sp_ref05_CheckHeights_0 p0) (0 : Int)))]
set_option maxHeartbeats 4000000 in
theorem d_ref05_CheckHeights (p0 : (List (Int × Int))) (K : (Int × Int) → Prop) (hp : ∀ p ∈ pre_ref05_CheckHeights p0, p) (h : K (s_ref05_CheckHeights p0)) : w_ref05_CheckHeights p0 K := by
  unfold w_ref05_CheckHeights
  unfold s_ref05_CheckHeights at h
  obtain ⟨hp0, _⟩ := conj_of hp
  exact (br' h (fun e0 h => h)
    (fun e0 h => (loop_gen (hp0 e0) h (fun y1 k1 hp h => by
  unfold st_ref05_CheckHeights_0 at h; obtain ⟨hp0, hp1, _⟩ := conj_of hp
  exact (br' h (fun e2 h => ⟨(hp0 e2), ⟨(hp1 e2), (br' h (fun e3 h => h)
    (fun e3 h => h))⟩⟩)
    (fun e2 h => h))))))
theorem l_ref05_CheckHeights_0 (p0 : List (Int × Int)) (hl : lenOk p0) : OkL (st_ref05_CheckHeights_0 p0) (sp_ref05_CheckHeights_0 p0) 0 ∧ lpv ((0 : Int), (0 : Int)) (st_ref05_CheckHeights_0 p0) 0 = v_scan (fun i x => cond (s_gravity_rangeErr x 1000000 != 0) (some (i, s_gravity_rangeErr x 1000000)) none) ((0 : Int), (0 : Int)) 0 p0 := by
  refine scan_is p0 (0, 0) (fun i x => cond (s_gravity_rangeErr x 1000000 != 0) (some (i, s_gravity_rangeErr x 1000000)) none) ((0 : Int), (0 : Int)) hl ?_ ?_
  · refine ⟨by simp only [sp_ref05_CheckHeights_0, List.forall_mem_cons, decide_eq_true_eq]; simp, by simp [st_ref05_CheckHeights_0]⟩
  · intro j hj
    have hj' : (j : Int) < p0.length := by omega
    refine ⟨by simp only [sp_ref05_CheckHeights_0, List.forall_mem_cons, decide_eq_true_eq, Int.toNat_natCast]; simp <;> omega, ?_⟩
    simp only [st_ref05_CheckHeights_0, hj', decide_true, Int.toNat_natCast, cond_true, wrap_nat (show (j : Int) ≤ 9223372036854775806 by unfold lenOk at hl; omega)]
    generalize p0.getD j (0, 0) = x
    cases (s_gravity_rangeErr x 1000000 != 0) <;> rfl
abbrev t_ref05_CheckHeights (p0 : List (Int × Int)) : Int × Int := v_heights p0
abbrev qre_ref05_CheckHeights (_ : List (Int × Int)) : List Prop := []
theorem pp_ref05_CheckHeights (p0 : List (Int × Int)) (_ : ∀ p ∈ qre_ref05_CheckHeights p0, p) : ∀ p ∈ pre_ref05_CheckHeights p0, p := by
  simp only [pre_ref05_CheckHeights, List.forall_mem_cons]
  refine ⟨fun h => (l_ref05_CheckHeights_0 p0 (lenOk_le (n := 64) ?_ (by decide))).1, by simp⟩
  have := of_decide_eq_false h; omega
theorem tt_ref05_CheckHeights (p0 : List (Int × Int)) (_ : ∀ p ∈ qre_ref05_CheckHeights p0, p) : s_ref05_CheckHeights p0 = t_ref05_CheckHeights p0 := by
  unfold s_ref05_CheckHeights t_ref05_CheckHeights v_heights
  cases h : decide ((p0.length : Int) > 64)
  · have := of_decide_eq_false h
    exact (l_ref05_CheckHeights_0 p0 (lenOk_le (n := 64) (by omega) (by decide))).2
  · rfl

abbrev con_ref05_CheckHeights : Con := ⟨P_ref05_CheckHeights, R_ref05_CheckHeights, fun x => qre_ref05_CheckHeights x, fun x => t_ref05_CheckHeights x⟩
theorem ok_ref05_CheckHeights : ConOk Tryd.prog 32 con_ref05_CheckHeights := ⟨k_ref05_CheckHeights, fun x hx => ret_tf (ps := P_ref05_CheckHeights) (rs := R_ref05_CheckHeights) (x := x) (y := t_ref05_CheckHeights x) e_ref05_CheckHeights hC_ref05_CheckHeights (tf_of (w_ref05_CheckHeights_eq x (fun z => z = t_ref05_CheckHeights x)) (d_ref05_CheckHeights x (fun z => z = t_ref05_CheckHeights x) (pp_ref05_CheckHeights x hx) (tt_ref05_CheckHeights x hx)))⟩
/- ref05_HeightsErr -/
def C_ref05_HeightsErr : Cons := [(32, [], con_ref05_CheckHeights)]
theorem hC_ref05_HeightsErr : ConsOk Tryd.prog C_ref05_HeightsErr := ConsOk.cons ok_ref05_CheckHeights <| ConsOk.nil
def w_ref05_HeightsErr (p0 : (List (Int × Int))) (K : Int → Prop) : Prop :=
  (K (v_heights p0).2)
set_option maxHeartbeats 4000000 in
theorem w_ref05_HeightsErr_eq (p0 : (List (Int × Int))) (K : Int → Prop) : tfn F_ref05_HeightsErr A_ref05_HeightsErr C_ref05_HeightsErr P_ref05_HeightsErr R_ref05_HeightsErr p0 K = w_ref05_HeightsErr p0 K := by kernel_rfl
def s_ref05_HeightsErr (p0 : (List (Int × Int))) : Int :=
  (v_heights p0).2
abbrev pre_ref05_HeightsErr (p0 : (List (Int × Int))) : List Prop := []
set_option maxHeartbeats 4000000 in
theorem d_ref05_HeightsErr (p0 : (List (Int × Int))) (K : Int → Prop) (hp : ∀ p ∈ pre_ref05_HeightsErr p0, p) (h : K (s_ref05_HeightsErr p0)) : w_ref05_HeightsErr p0 K := by
  unfold w_ref05_HeightsErr
  unfold s_ref05_HeightsErr at h
  exact h
abbrev con_ref05_HeightsErr : Con := ⟨P_ref05_HeightsErr, R_ref05_HeightsErr, fun x => pre_ref05_HeightsErr x, fun x => s_ref05_HeightsErr x⟩
theorem ok_ref05_HeightsErr : ConOk Tryd.prog 38 con_ref05_HeightsErr := ⟨k_ref05_HeightsErr, fun x hx => ret_tf (ps := P_ref05_HeightsErr) (rs := R_ref05_HeightsErr) (x := x) (y := s_ref05_HeightsErr x) e_ref05_HeightsErr hC_ref05_HeightsErr (tf_of (w_ref05_HeightsErr_eq x (fun z => z = s_ref05_HeightsErr x)) (d_ref05_HeightsErr x (fun z => z = s_ref05_HeightsErr x) hx rfl))⟩
/- base_Floor -/
def C_base_Floor : Cons := []
theorem hC_base_Floor : ConsOk Tryd.prog C_base_Floor := ConsOk.nil
def w_base_Floor (p0 : Int) (p1 : Int) (K : Int → Prop) : Prop :=
  ((p1 ≠ (0 : Int)) ∧
  ((p1 ≠ (0 : Int)) ∧
  ((((decide ((Int.tmod p0 p1) < (0 : Int))) = true) →
  (K (Go.IntKind.wrap .i64 ((Go.IntKind.wrap .i64 (Int.tdiv p0 p1)) - (1 : Int))))) ∧
  (((decide ((Int.tmod p0 p1) < (0 : Int))) = false) →
  (K (Go.IntKind.wrap .i64 (Int.tdiv p0 p1)))))))
set_option maxHeartbeats 4000000 in
theorem w_base_Floor_eq (p0 : Int) (p1 : Int) (K : Int → Prop) : tfn F_base_Floor A_base_Floor C_base_Floor P_base_Floor R_base_Floor (p0, p1) K = w_base_Floor p0 p1 K := by kernel_rfl
def s_base_Floor (p0 : Int) (p1 : Int) : Int :=
  (cond (decide ((Int.tmod p0 p1) < (0 : Int))) (Go.IntKind.wrap .i64 ((Go.IntKind.wrap .i64 (Int.tdiv p0 p1)) - (1 : Int)))
    (Go.IntKind.wrap .i64 (Int.tdiv p0 p1)))
abbrev pre_base_Floor (p0 : Int) (p1 : Int) : List Prop := [(p1 ≠ (0 : Int))]
set_option maxHeartbeats 4000000 in
theorem d_base_Floor (p0 : Int) (p1 : Int) (K : Int → Prop) (hp : ∀ p ∈ pre_base_Floor p0 p1, p) (h : K (s_base_Floor p0 p1)) : w_base_Floor p0 p1 K := by
  unfold w_base_Floor
  unfold s_base_Floor at h
  obtain ⟨hp0, _⟩ := conj_of hp
  exact ⟨(hp0), ⟨(hp0), (br' h (fun e0 h => h)
    (fun e0 h => h))⟩⟩
abbrev t_base_Floor (p0 p1 : Int) : Int := p0 / p1
abbrev qre_base_Floor (p0 p1 : Int) : List Prop := [v_fit p0, 0 < p1]
theorem pp_base_Floor (p0 p1 : Int) (hq : ∀ p ∈ qre_base_Floor p0 p1, p) : ∀ p ∈ pre_base_Floor p0 p1, p := by
  simp only [pre_base_Floor, List.forall_mem_cons]
  have := (conj_of hq).2.1
  exact ⟨by omega, by simp⟩
theorem tt_base_Floor (p0 p1 : Int) (hq : ∀ p ∈ qre_base_Floor p0 p1, p) : s_base_Floor p0 p1 = t_base_Floor p0 p1 := floor_is (conj_of hq).1 (conj_of hq).2.1

abbrev con_base_Floor : Con := ⟨P_base_Floor, R_base_Floor, fun x => qre_base_Floor x.1 x.2, fun x => t_base_Floor x.1 x.2⟩
theorem ok_base_Floor : ConOk Tryd.prog 66 con_base_Floor := ⟨k_base_Floor, fun x hx => ret_tf (ps := P_base_Floor) (rs := R_base_Floor) (x := x) (y := t_base_Floor x.1 x.2) e_base_Floor hC_base_Floor (tf_of (w_base_Floor_eq x.1 x.2 (fun z => z = t_base_Floor x.1 x.2)) (d_base_Floor x.1 x.2 (fun z => z = t_base_Floor x.1 x.2) (pp_base_Floor x.1 x.2 hx) (tt_base_Floor x.1 x.2 hx)))⟩
/- base_Ceil -/
def C_base_Ceil : Cons := [(66, [], con_base_Floor)]
theorem hC_base_Ceil : ConsOk Tryd.prog C_base_Ceil := ConsOk.cons ok_base_Floor <| ConsOk.nil
def w_base_Ceil (p0 : Int) (p1 : Int) (K : Int → Prop) : Prop :=
  ((v_fit (Go.IntKind.wrap .i64 ((0 : Int) - p0))) ∧
  (((0 : Int) < p1) ∧
  (K (Go.IntKind.wrap .i64 ((0 : Int) - ((Go.IntKind.wrap .i64 ((0 : Int) - p0)) / p1))))))
set_option maxHeartbeats 4000000 in
theorem w_base_Ceil_eq (p0 : Int) (p1 : Int) (K : Int → Prop) : tfn F_base_Ceil A_base_Ceil C_base_Ceil P_base_Ceil R_base_Ceil (p0, p1) K = w_base_Ceil p0 p1 K := by kernel_rfl
def s_base_Ceil (p0 : Int) (p1 : Int) : Int :=
  (Go.IntKind.wrap .i64 ((0 : Int) - ((Go.IntKind.wrap .i64 ((0 : Int) - p0)) / p1)))
abbrev pre_base_Ceil (p0 : Int) (p1 : Int) : List Prop := [(v_fit (Go.IntKind.wrap .i64 ((0 : Int) - p0))),
    ((0 : Int) < p1)]
set_option maxHeartbeats 4000000 in
theorem d_base_Ceil (p0 : Int) (p1 : Int) (K : Int → Prop) (hp : ∀ p ∈ pre_base_Ceil p0 p1, p) (h : K (s_base_Ceil p0 p1)) : w_base_Ceil p0 p1 K := by
  unfold w_base_Ceil
  unfold s_base_Ceil at h
  obtain ⟨hp0, hp1, _⟩ := conj_of hp
  exact ⟨(hp0), ⟨(hp1), h⟩⟩
theorem tx_base_Ceil {n b : Int} (hn : v_fit n) (hb : 0 < b) : s_base_Ceil n b = v_ceil n b := by
  unfold v_fit at hn
  unfold s_base_Ceil v_ceil
  rw [wrap_id (n := 0 - n) (by omega) (by omega), show (0 : Int) - n = -n by omega]
  have h : ((-n) / b).natAbs ≤ (-n).natAbs := Int.natAbs_ediv_le_natAbs _ _
  have h2 : -n / b ≤ 9223372036854775807 := by omega
  have h3 : -9223372036854775808 ≤ -n / b := by omega
  rw [wrap_id (n := 0 - -n / b) (by omega) (by omega)]; omega
abbrev t_base_Ceil (p0 p1 : Int) : Int := v_ceil p0 p1
abbrev qre_base_Ceil (p0 p1 : Int) : List Prop := [v_fit p0, 0 < p1]
theorem pp_base_Ceil (p0 p1 : Int) (hq : ∀ p ∈ qre_base_Ceil p0 p1, p) : ∀ p ∈ pre_base_Ceil p0 p1, p := by
  obtain ⟨h1, h2, _⟩ := conj_of hq
  unfold v_fit at h1
  simp only [pre_base_Ceil, List.forall_mem_cons, wrap_id (n := 0 - p0) (by omega) (by omega)]
  exact ⟨by unfold v_fit; omega, h2, by simp⟩
theorem tt_base_Ceil (p0 p1 : Int) (hq : ∀ p ∈ qre_base_Ceil p0 p1, p) : s_base_Ceil p0 p1 = t_base_Ceil p0 p1 := tx_base_Ceil (conj_of hq).1 (conj_of hq).2.1

abbrev con_base_Ceil : Con := ⟨P_base_Ceil, R_base_Ceil, fun x => qre_base_Ceil x.1 x.2, fun x => t_base_Ceil x.1 x.2⟩
theorem ok_base_Ceil : ConOk Tryd.prog 67 con_base_Ceil := ⟨k_base_Ceil, fun x hx => ret_tf (ps := P_base_Ceil) (rs := R_base_Ceil) (x := x) (y := t_base_Ceil x.1 x.2) e_base_Ceil hC_base_Ceil (tf_of (w_base_Ceil_eq x.1 x.2 (fun z => z = t_base_Ceil x.1 x.2)) (d_base_Ceil x.1 x.2 (fun z => z = t_base_Ceil x.1 x.2) (pp_base_Ceil x.1 x.2 hx) (tt_base_Ceil x.1 x.2 hx)))⟩
/- ref05_Filtered -/
def C_ref05_Filtered : Cons := [(76, [], con_ref05_Sum), (96, [], con_ref05_at), (66, [], con_base_Floor), (67, [], con_base_Ceil)]
theorem hC_ref05_Filtered : ConsOk Tryd.prog C_ref05_Filtered := ConsOk.cons ok_ref05_Sum <| ConsOk.cons ok_ref05_at <| ConsOk.cons ok_base_Floor <| ConsOk.cons ok_base_Ceil <| ConsOk.nil
def w_ref05_Filtered (p0 : (List Int)) (p1 : (List (Int × Int))) (K : (List (Int × Int)) → Prop) : Prop :=
  ((v_fw p0) ∧
  (∃ n0, (loopP (fun (y1 : (Int × (List (Int × Int)))) k2 =>
    ((((decide ((Go.IntKind.wrap .i64 (y1.1 + (Go.IntKind.wrap .i64 ((((List.length p0) : Nat) : Int) - (1 : Int))))) < (((List.length p1) : Nat) : Int))) = true) →
    (∃ n3, (loopP (fun (y4 : (Int × (Int × Int))) k5 =>
        ((((decide (y4.1 ≤ (Go.IntKind.wrap .i64 ((((List.length p0) : Nat) : Int) - (1 : Int))))) = true) →
        ((v_fit y4.1) ∧
          (((0 : Int) ≤ (Go.IntKind.wrap .i64 (y1.1 + y4.1))) ∧
          (((Go.IntKind.wrap .i64 (y1.1 + y4.1)) < (((List.length p1) : Nat) : Int)) ∧
          (k5 ((Go.IntKind.wrap .i64 (y4.1 + (1 : Int))), ((Go.IntKind.wrap .i64 (y4.2.1 + (max (Go.IntKind.wrap .i64 ((v_at p0 y4.1) * (List.getD p1 (Int.toNat (Go.IntKind.wrap .i64 (y1.1 + y4.1))) ((0 : Int), (0 : Int))).1)) (Go.IntKind.wrap .i64 ((v_at p0 y4.1) * (List.getD p1 (Int.toNat (Go.IntKind.wrap .i64 (y1.1 + y4.1))) ((0 : Int), (0 : Int))).2))))), (Go.IntKind.wrap .i64 (y4.2.2 + (min (Go.IntKind.wrap .i64 ((v_at p0 y4.1) * (List.getD p1 (Int.toNat (Go.IntKind.wrap .i64 (y1.1 + y4.1))) ((0 : Int), (0 : Int))).1)) (Go.IntKind.wrap .i64 ((v_at p0 y4.1) * (List.getD p1 (Int.toNat (Go.IntKind.wrap .i64 (y1.1 + y4.1))) ((0 : Int), (0 : Int))).2)))))))))))) ∧
        (((decide (y4.1 ≤ (Go.IntKind.wrap .i64 ((((List.length p0) : Nat) : Int) - (1 : Int))))) = false) →
        ((v_fit y4.2.2) ∧
          (((0 : Int) < (v_fsum p0)) ∧
          ((v_fit y4.2.1) ∧
          (((0 : Int) < (v_fsum p0)) ∧
          (((((List.length y1.2) + (List.length (((y4.2.2 / (v_fsum p0)), (v_ceil y4.2.1 (v_fsum p0))) :: ([] : List (Int × Int))))) * 16) ≤ 140737488355328) ∧
          (k2 ((Go.IntKind.wrap .i64 (y1.1 + (1 : Int))), (y1.2 ++ (((y4.2.2 / (v_fsum p0)), (v_ceil y4.2.1 (v_fsum p0))) :: ([] : List (Int × Int)))))))))))))) n3 ((Go.IntKind.wrap .i64 ((0 : Int) - (Go.IntKind.wrap .i64 ((((List.length p0) : Nat) : Int) - (1 : Int))))), ((0 : Int), (0 : Int)))))) ∧
    (((decide ((Go.IntKind.wrap .i64 (y1.1 + (Go.IntKind.wrap .i64 ((((List.length p0) : Nat) : Int) - (1 : Int))))) < (((List.length p1) : Nat) : Int))) = false) →
    (K y1.2)))) n0 ((Go.IntKind.wrap .i64 ((((List.length p0) : Nat) : Int) - (1 : Int))), ([] : List (Int × Int))))))
set_option maxHeartbeats 4000000 in
theorem w_ref05_Filtered_eq (p0 : (List Int)) (p1 : (List (Int × Int))) (K : (List (Int × Int)) → Prop) : tfn F_ref05_Filtered A_ref05_Filtered C_ref05_Filtered P_ref05_Filtered R_ref05_Filtered (p0, p1) K = w_ref05_Filtered p0 p1 K := by kernel_rfl
def st_ref05_Filtered_0 (p0 : (List Int)) (p1 : (List (Int × Int))) (y0 : (Int × (List (Int × Int)))) (y2 : (Int × (Int × Int))) : (Int × (Int × Int)) ⊕ ((Int × (List (Int × Int))) ⊕ (List (Int × Int))) :=
  (cond (decide (y2.1 ≤ (Go.IntKind.wrap .i64 ((((List.length p0) : Nat) : Int) - (1 : Int))))) (Sum.inl ((Go.IntKind.wrap .i64 (y2.1 + (1 : Int))), ((Go.IntKind.wrap .i64 (y2.2.1 + (max (Go.IntKind.wrap .i64 ((v_at p0 y2.1) * (List.getD p1 (Int.toNat (Go.IntKind.wrap .i64 (y0.1 + y2.1))) ((0 : Int), (0 : Int))).1)) (Go.IntKind.wrap .i64 ((v_at p0 y2.1) * (List.getD p1 (Int.toNat (Go.IntKind.wrap .i64 (y0.1 + y2.1))) ((0 : Int), (0 : Int))).2))))), (Go.IntKind.wrap .i64 (y2.2.2 + (min (Go.IntKind.wrap .i64 ((v_at p0 y2.1) * (List.getD p1 (Int.toNat (Go.IntKind.wrap .i64 (y0.1 + y2.1))) ((0 : Int), (0 : Int))).1)) (Go.IntKind.wrap .i64 ((v_at p0 y2.1) * (List.getD p1 (Int.toNat (Go.IntKind.wrap .i64 (y0.1 + y2.1))) ((0 : Int), (0 : Int))).2))))))))
    (Sum.inr (Sum.inl ((Go.IntKind.wrap .i64 (y0.1 + (1 : Int))), (y0.2 ++ (((y2.2.2 / (v_fsum p0)), (v_ceil y2.2.1 (v_fsum p0))) :: ([] : List (Int × Int))))))))
abbrev sp_ref05_Filtered_0 (p0 : (List Int)) (p1 : (List (Int × Int))) (y0 : (Int × (List (Int × Int)))) (y2 : (Int × (Int × Int))) : List Prop := [(((decide (y2.1 ≤ (Go.IntKind.wrap .i64 ((((List.length p0) : Nat) : Int) - (1 : Int))))) = true) → (v_fit y2.1)),
    (((decide (y2.1 ≤ (Go.IntKind.wrap .i64 ((((List.length p0) : Nat) : Int) - (1 : Int))))) = true) → ((0 : Int) ≤ (Go.IntKind.wrap .i64 (y0.1 + y2.1)))),
    (((decide (y2.1 ≤ (Go.IntKind.wrap .i64 ((((List.length p0) : Nat) : Int) - (1 : Int))))) = true) → ((Go.IntKind.wrap .i64 (y0.1 + y2.1)) < (((List.length p1) : Nat) : Int))),
    (((decide (y2.1 ≤ (Go.IntKind.wrap .i64 ((((List.length p0) : Nat) : Int) - (1 : Int))))) = false) → (v_fit y2.2.2)),
    (((decide (y2.1 ≤ (Go.IntKind.wrap .i64 ((((List.length p0) : Nat) : Int) - (1 : Int))))) = false) → ((0 : Int) < (v_fsum p0))),
    (((decide (y2.1 ≤ (Go.IntKind.wrap .i64 ((((List.length p0) : Nat) : Int) - (1 : Int))))) = false) → (v_fit y2.2.1)),
    (((decide (y2.1 ≤ (Go.IntKind.wrap .i64 ((((List.length p0) : Nat) : Int) - (1 : Int))))) = false) → ((((List.length y0.2) + (List.length (((y2.2.2 / (v_fsum p0)), (v_ceil y2.2.1 (v_fsum p0))) :: ([] : List (Int × Int))))) * 16) ≤ 140737488355328))]
def st_ref05_Filtered_1 (p0 : (List Int)) (p1 : (List (Int × Int))) (y0 : (Int × (List (Int × Int)))) : (Int × (List (Int × Int))) ⊕ (List (Int × Int)) :=
  (cond (decide ((Go.IntKind.wrap .i64 (y0.1 + (Go.IntKind.wrap .i64 ((((List.length p0) : Nat) : Int) - (1 : Int))))) < (((List.length p1) : Nat) : Int))) (lpv (Sum.inr []) (st_ref05_Filtered_0 p0 p1 y0) ((Go.IntKind.wrap .i64 ((0 : Int) - (Go.IntKind.wrap .i64 ((((List.length p0) : Nat) : Int) - (1 : Int))))), ((0 : Int), (0 : Int))))
    (Sum.inr y0.2))
abbrev sp_ref05_Filtered_1 (p0 : (List Int)) (p1 : (List (Int × Int))) (y0 : (Int × (List (Int × Int)))) : List Prop := [(((decide ((Go.IntKind.wrap .i64 (y0.1 + (Go.IntKind.wrap .i64 ((((List.length p0) : Nat) : Int) - (1 : Int))))) < (((List.length p1) : Nat) : Int))) = true) → (OkL (st_ref05_Filtered_0 p0 p1 y0) (sp_ref05_Filtered_0 p0 p1 y0) ((Go.IntKind.wrap .i64 ((0 : Int) - (Go.IntKind.wrap .i64 ((((List.length p0) : Nat) : Int) - (1 : Int))))), ((0 : Int), (0 : Int)))))]
def s_ref05_Filtered (p0 : (List Int)) (p1 : (List (Int × Int))) : (List (Int × Int)) :=
  (lpv [] (st_ref05_Filtered_1 p0 p1) ((Go.IntKind.wrap .i64 ((((List.length p0) : Nat) : Int) - (1 : Int))), ([] : List (Int × Int))))
abbrev pre_ref05_Filtered (p0 : (List Int)) (p1 : (List (Int × Int))) : List Prop := [(v_fw p0),
    (OkL (st_ref05_Filtered_1 p0 p1) (sp_ref05_Filtered_1 p0 p1) ((Go.IntKind.wrap .i64 ((((List.length p0) : Nat) : Int) - (1 : Int))), ([] : List (Int × Int))))]
set_option maxHeartbeats 4000000 in
theorem d_ref05_Filtered (p0 : (List Int)) (p1 : (List (Int × Int))) (K : (List (Int × Int)) → Prop) (hp : ∀ p ∈ pre_ref05_Filtered p0 p1, p) (h : K (s_ref05_Filtered p0 p1)) : w_ref05_Filtered p0 p1 K := by
  unfold w_ref05_Filtered
  unfold s_ref05_Filtered at h
  obtain ⟨hp0, hp1, _⟩ := conj_of hp
  exact ⟨(hp0), (loop_gen (hp1) h (fun y0 k0 hp h => by
  unfold st_ref05_Filtered_1 at h; obtain ⟨hp0, _⟩ := conj_of hp
  exact (br' h (fun e1 h => (loop_gen (hp0 e1) h (fun y2 k2 hp h => by
  unfold st_ref05_Filtered_0 at h; obtain ⟨hp0, hp1, hp2, hp3, hp4, hp5, hp6, _⟩ := conj_of hp
  exact (br' h (fun e3 h => ⟨(hp0 e3), ⟨(hp1 e3), ⟨(hp2 e3), h⟩⟩⟩)
    (fun e3 h => ⟨(hp3 e3), ⟨(hp4 e3), ⟨(hp5 e3), ⟨(hp4 e3), ⟨(hp6 e3), h⟩⟩⟩⟩⟩)))))
    (fun e1 h => h))))⟩
theorem v_lin_sums : ∀ (ws : List Int) (xs : List (Int × Int)), ws.length ≤ xs.length → v_lin ws xs = (v_sums (fun i => min (ws.getD i 0 * (xs.getD i (0, 0)).1) (ws.getD i 0 * (xs.getD i (0, 0)).2)) 0 ws.length, v_sums (fun i => max (ws.getD i 0 * (xs.getD i (0, 0)).1) (ws.getD i 0 * (xs.getD i (0, 0)).2)) 0 ws.length)
  | [], _, _ => by simp [v_lin, v_sums]
  | w :: ws, [], h => by simp at h
  | w :: ws, x :: xs, h => by
    rw [v_lin, v_lin_sums ws xs (by simpa using h), List.length_cons, v_sums, v_sums_shift, v_sums, v_sums_shift]
    rfl
theorem v_fil_len' (f : List Int) (l : List (Int × Int)) : (v_fil f l).length = (max 0 ((l.length : Int) - ((v_both f).length : Nat) + 1)).toNat := by simp [v_fil, v_windows]
def v_fmin (f : List Int) (l : List (Int × Int)) (j i : Nat) : Int := min (v_at f ((i : Int) - ((f.length : Int) - 1)) * (l.getD (j + i) (0, 0)).1) (v_at f ((i : Int) - ((f.length : Int) - 1)) * (l.getD (j + i) (0, 0)).2)
def v_fmax (f : List Int) (l : List (Int × Int)) (j i : Nat) : Int := max (v_at f ((i : Int) - ((f.length : Int) - 1)) * (l.getD (j + i) (0, 0)).1) (v_at f ((i : Int) - ((f.length : Int) - 1)) * (l.getD (j + i) (0, 0)).2)
theorem v_fil_get' {f : List Int} {l : List (Int × Int)} (h1 : 1 ≤ f.length) {j : Nat} (h : j < (v_fil f l).length) : (v_fil f l).getD j (0, 0) = (v_sums (v_fmin f l j) 0 (2 * f.length - 1) / v_fsum f, v_ceil (v_sums (v_fmax f l j) 0 (2 * f.length - 1)) (v_fsum f)) := by
  have hb := v_both_len h1
  rw [v_fil_len'] at h
  unfold v_fil v_windows
  rw [List.map_map, gd_map 0 (by simpa using h)]
  rw [show (List.range (max 0 ((l.length : Int) - ((v_both f).length : Nat) + 1)).toNat).getD j 0 = j by rw [List.range_eq_range', gd_range h, Nat.zero_add]]
  simp only [Function.comp, Int.toNat_natCast]
  have e1 := v_sums_congr (f := fun i => min ((v_both f).getD i 0 * (((l.drop j).take (2 * f.length - 1)).getD i (0, 0)).1) ((v_both f).getD i 0 * (((l.drop j).take (2 * f.length - 1)).getD i (0, 0)).2)) (g := v_fmin f l j) (2 * f.length - 1) 0 (fun i _ hi => by unfold v_fmin; rw [v_both_at (by omega), gd_take (by omega), gd_drop])
  have e2 := v_sums_congr (f := fun i => max ((v_both f).getD i 0 * (((l.drop j).take (2 * f.length - 1)).getD i (0, 0)).1) ((v_both f).getD i 0 * (((l.drop j).take (2 * f.length - 1)).getD i (0, 0)).2)) (g := v_fmax f l j) (2 * f.length - 1) 0 (fun i _ hi => by unfold v_fmax; rw [v_both_at (by omega), gd_take (by omega), gd_drop])
  rw [v_lin_sums _ _ (by rw [List.length_take, List.length_drop]; omega), hb, e1, e2]
theorem l_ref05_Filtered_0 (p0 : List Int) (p1 : List (Int × Int)) (h : v_fok p0) (hl : v_hok p1) (j : Nat) (hj : j < (v_fil p0 p1).length) (l : List (Int × Int)) (hll : l.length = j) : OkL (st_ref05_Filtered_0 p0 p1 ((j : Int) + ((p0.length : Int) - 1), l)) (sp_ref05_Filtered_0 p0 p1 ((j : Int) + ((p0.length : Int) - 1), l)) (0 - ((p0.length : Int) - 1), (0, 0)) ∧ lpv (Sum.inr []) (st_ref05_Filtered_0 p0 p1 ((j : Int) + ((p0.length : Int) - 1), l)) (0 - ((p0.length : Int) - 1), (0, 0)) = Sum.inl (((j + 1 : Nat) : Int) + ((p0.length : Int) - 1), l ++ [(v_fil p0 p1).getD j (0, 0)]) := by
  have h1 := h.one
  have h9 := h.nine
  have hlen := hl.len
  have hb := v_both_len h1
  have hj' := hj
  rw [v_fil_len'] at hj'
  have hm : IntKind.i64.wrap ((p0.length : Int) - 1) = (p0.length : Int) - 1 := wrap_id (by omega) (by omega)
  have hx : ∀ i, i < 2 * p0.length - 1 → (-1000000 ≤ (p1.getD (j + i) (0, 0)).1 ∧ (p1.getD (j + i) (0, 0)).1 ≤ 1000000) ∧ (-1000000 ≤ (p1.getD (j + i) (0, 0)).2 ∧ (p1.getD (j + i) (0, 0)).2 ≤ 1000000) := fun i hi => ⟨(hl.all _ (getD_mem' _ (by omega))).1, (hl.all _ (getD_mem' _ (by omega))).2.1⟩
  have hpr : ∀ i, i < 2 * p0.length - 1 → (-100000000000 ≤ v_at p0 ((i : Int) - ((p0.length : Int) - 1)) * (p1.getD (j + i) (0, 0)).1 ∧ v_at p0 ((i : Int) - ((p0.length : Int) - 1)) * (p1.getD (j + i) (0, 0)).1 ≤ 100000000000) ∧ (-100000000000 ≤ v_at p0 ((i : Int) - ((p0.length : Int) - 1)) * (p1.getD (j + i) (0, 0)).2 ∧ v_at p0 ((i : Int) - ((p0.length : Int) - 1)) * (p1.getD (j + i) (0, 0)).2 ≤ 100000000000) := by
    intro i hi
    have a := h.tov_fw.at ((i : Int) - ((p0.length : Int) - 1))
    have b := mul_abs a.1 a.2 (hx i hi).1.1 (hx i hi).1.2
    have c := mul_abs a.1 a.2 (hx i hi).2.1 (hx i hi).2.2
    omega
  have hmin : ∀ i, i < 2 * p0.length - 1 → -100000000000 ≤ v_fmin p0 p1 j i ∧ v_fmin p0 p1 j i ≤ 100000000000 := fun i hi => by have := hpr i hi; unfold v_fmin; omega
  have hmax : ∀ i, i < 2 * p0.length - 1 → -100000000000 ≤ v_fmax p0 p1 j i ∧ v_fmax p0 p1 j i ≤ 100000000000 := fun i hi => by have := hpr i hi; unfold v_fmax; omega
  refine for_is (fun i t => (i - ((p0.length : Int) - 1), t)) 0 (2 * p0.length - 1) (fun i t => t = (v_sums (v_fmax p0 p1 j) 0 i, v_sums (v_fmin p0 p1 j) 0 i)) (fun _ _ => Sum.inl (((j + 1 : Nat) : Int) + ((p0.length : Int) - 1), l ++ [(v_fil p0 p1).getD j (0, 0)])) (by omega) (by omega) ?_ ?_ _ rfl
  · rintro t rfl
    have hd : decide (((2 * p0.length - 1 : Nat) : Int) - ((p0.length : Int) - 1) ≤ (p0.length : Int) - 1) = false := decide_eq_false (by omega)
    have no : ∀ {p : Prop}, decide (((2 * p0.length - 1 : Nat) : Int) - ((p0.length : Int) - 1) ≤ (p0.length : Int) - 1) = true → p := fun h => by rw [hd] at h; cases h
    have i1 := v_sums_in (f := v_fmin p0 p1 j) (m := 100000000000) (2 * p0.length - 1) 0 (fun k _ hk => hmin k (by omega))
    have i2 := v_sums_in (f := v_fmax p0 p1 j) (m := 100000000000) (2 * p0.length - 1) 0 (fun k _ hk => hmax k (by omega))
    have hp := h.pos
    refine ⟨?_, ?_⟩
    · simp only [sp_ref05_Filtered_0, List.forall_mem_cons, hm]
      unfold v_fit
      exact ⟨no, no, no, fun _ => by omega, fun _ => hp, fun _ => by omega, fun _ => by simp only [List.length_cons, List.length_nil]; omega, by simp⟩
    · simp only [st_ref05_Filtered_0, hm, hd, cond_false]
      rw [v_fil_get' h1 hj, wrap_id (by omega) (by omega), show (j : Int) + ((p0.length : Int) - 1) + 1 = ((j + 1 : Nat) : Int) + ((p0.length : Int) - 1) by omega]
  · rintro i t _ hi rfl
    have hd : decide ((i : Int) - ((p0.length : Int) - 1) ≤ (p0.length : Int) - 1) = true := decide_eq_true (by omega)
    have no : ∀ {p : Prop}, decide ((i : Int) - ((p0.length : Int) - 1) ≤ (p0.length : Int) - 1) = false → p := fun h => by rw [hd] at h; cases h
    have hw : IntKind.i64.wrap ((j : Int) + ((p0.length : Int) - 1) + ((i : Int) - ((p0.length : Int) - 1))) = ((j + i : Nat) : Int) := by rw [wrap_id (by omega) (by omega)]; omega
    refine ⟨?_, .inl ⟨_, ?_, rfl, rfl⟩⟩
    · simp only [sp_ref05_Filtered_0, List.forall_mem_cons, hm, hw]
      exact ⟨fun _ => by unfold v_fit; omega, fun _ => by omega, fun _ => by omega, no, no, no, no, by simp⟩
    · have i1 := v_sums_in (f := v_fmin p0 p1 j) (m := 100000000000) i 0 (fun k _ hk => hmin k (by omega))
      have i2 := v_sums_in (f := v_fmax p0 p1 j) (m := 100000000000) i 0 (fun k _ hk => hmax k (by omega))
      have m1 := hmin i hi
      have m2 := hmax i hi
      have mp := hpr i hi
      simp only [st_ref05_Filtered_0, hm, hw, hd, cond_true, Int.toNat_natCast]
      rw [wrap_id (n := v_at p0 ((i : Int) - ((p0.length : Int) - 1)) * (p1.getD (j + i) (0, 0)).1) (by omega) (by omega), wrap_id (n := v_at p0 ((i : Int) - ((p0.length : Int) - 1)) * (p1.getD (j + i) (0, 0)).2) (by omega) (by omega)]
      show Sum.inl (_, IntKind.i64.wrap (v_sums (v_fmax p0 p1 j) 0 i + v_fmax p0 p1 j i), IntKind.i64.wrap (v_sums (v_fmin p0 p1 j) 0 i + v_fmin p0 p1 j i)) = _
      rw [v_sums_last, v_sums_last, Nat.zero_add, wrap_id (n := v_sums (v_fmax p0 p1 j) 0 i + v_fmax p0 p1 j i) (by omega) (by omega), wrap_id (n := v_sums (v_fmin p0 p1 j) 0 i + v_fmin p0 p1 j i) (by omega) (by omega), wrap_id (by omega) (by omega), show (i : Int) - ((p0.length : Int) - 1) + 1 = ((i + 1 : Nat) : Int) - ((p0.length : Int) - 1) by omega]
theorem l_ref05_Filtered (p0 : List Int) (p1 : List (Int × Int)) (h : v_fok p0) (hl : v_hok p1) : OkL (st_ref05_Filtered_1 p0 p1) (sp_ref05_Filtered_1 p0 p1) ((Go.IntKind.wrap .i64 ((((List.length p0) : Nat) : Int) - (1 : Int))), []) ∧ s_ref05_Filtered p0 p1 = v_fil p0 p1 := by
  have h1 := h.one
  have h9 := h.nine
  have hlen := hl.len
  have hb := v_both_len h1
  have hm : IntKind.i64.wrap ((p0.length : Int) - 1) = (p0.length : Int) - 1 := wrap_id (by omega) (by omega)
  have hm0 : IntKind.i64.wrap (0 - ((p0.length : Int) - 1)) = 0 - ((p0.length : Int) - 1) := wrap_id (by omega) (by omega)
  have hfl := v_fil_len' p0 p1
  unfold s_ref05_Filtered
  rw [hm, show (p0.length : Int) - 1 = ((0 : Nat) : Int) + ((p0.length : Int) - 1) by omega]
  refine for_is (fun i t => (i + ((p0.length : Int) - 1), t)) 0 (v_fil p0 p1).length (fun j t => t = (v_fil p0 p1).take j) (fun _ _ => v_fil p0 p1) (by omega) (by omega) ?_ ?_ _ rfl
  · rintro t rfl
    have hw : IntKind.i64.wrap (((v_fil p0 p1).length : Int) + ((p0.length : Int) - 1) + ((p0.length : Int) - 1)) = ((v_fil p0 p1).length : Int) + ((p0.length : Int) - 1) + ((p0.length : Int) - 1) := wrap_id (by omega) (by omega)
    have hd : decide (((v_fil p0 p1).length : Int) + ((p0.length : Int) - 1) + ((p0.length : Int) - 1) < (p1.length : Nat)) = false := decide_eq_false (by omega)
    refine ⟨by simp only [sp_ref05_Filtered_1, List.forall_mem_cons, hm, hw]; exact ⟨fun h => (by rw [hd] at h; cases h), by simp⟩, ?_⟩
    simp only [st_ref05_Filtered_1, hm, hw, hd, cond_false, List.take_length]
  · rintro j t _ hj rfl
    have hw : IntKind.i64.wrap ((j : Int) + ((p0.length : Int) - 1) + ((p0.length : Int) - 1)) = (j : Int) + ((p0.length : Int) - 1) + ((p0.length : Int) - 1) := wrap_id (by omega) (by omega)
    have hd : decide ((j : Int) + ((p0.length : Int) - 1) + ((p0.length : Int) - 1) < (p1.length : Nat)) = true := decide_eq_true (by omega)
    obtain ⟨l1, l2⟩ := l_ref05_Filtered_0 p0 p1 h hl j hj ((v_fil p0 p1).take j) (by rw [List.length_take]; omega)
    refine ⟨by simp only [sp_ref05_Filtered_1, List.forall_mem_cons, hm, hm0]; exact ⟨fun _ => l1, by simp⟩, .inl ⟨_, ?_, rfl, rfl⟩⟩
    simp only [st_ref05_Filtered_1, hm, hm0, hw, hd, cond_true]
    rw [l2, List.take_add_one, List.getElem?_eq_getElem hj, gd_get _ hj]; rfl
abbrev t_ref05_Filtered (p0 : List Int) (p1 : List (Int × Int)) : List (Int × Int) := v_fil p0 p1
abbrev qre_ref05_Filtered (p0 : List Int) (p1 : List (Int × Int)) : List Prop := [v_fok p0, v_hok p1]
theorem pp_ref05_Filtered (p0 : List Int) (p1 : List (Int × Int)) (hq : ∀ p ∈ qre_ref05_Filtered p0 p1, p) : ∀ p ∈ pre_ref05_Filtered p0 p1, p := by
  obtain ⟨h, hl, _⟩ := conj_of hq
  simp only [pre_ref05_Filtered, List.forall_mem_cons]
  exact ⟨h.tov_fw, (l_ref05_Filtered p0 p1 h hl).1, by simp⟩
theorem tt_ref05_Filtered (p0 : List Int) (p1 : List (Int × Int)) (hq : ∀ p ∈ qre_ref05_Filtered p0 p1, p) : s_ref05_Filtered p0 p1 = t_ref05_Filtered p0 p1 := (l_ref05_Filtered p0 p1 (conj_of hq).1 (conj_of hq).2.1).2

abbrev con_ref05_Filtered : Con := ⟨P_ref05_Filtered, R_ref05_Filtered, fun x => qre_ref05_Filtered x.1 x.2, fun x => t_ref05_Filtered x.1 x.2⟩
theorem ok_ref05_Filtered : ConOk Tryd.prog 78 con_ref05_Filtered := ⟨k_ref05_Filtered, fun x hx => ret_tf (ps := P_ref05_Filtered) (rs := R_ref05_Filtered) (x := x) (y := t_ref05_Filtered x.1 x.2) e_ref05_Filtered hC_ref05_Filtered (tf_of (w_ref05_Filtered_eq x.1 x.2 (fun z => z = t_ref05_Filtered x.1 x.2)) (d_ref05_Filtered x.1 x.2 (fun z => z = t_ref05_Filtered x.1 x.2) (pp_ref05_Filtered x.1 x.2 hx) (tt_ref05_Filtered x.1 x.2 hx)))⟩
/- base_Ranges -/
def C_base_Ranges : Cons := []
theorem hC_base_Ranges : ConsOk Tryd.prog C_base_Ranges := ConsOk.nil
def w_base_Ranges (p0 : (List (Int × Int))) (p1 : (List (Int × Int))) (K : Bool → Prop) : Prop :=
  (((((((List.length p0) : Nat) : Int) != (((List.length p1) : Nat) : Int)) = true) →
  (K false)) ∧
  ((((((List.length p0) : Nat) : Int) != (((List.length p1) : Nat) : Int)) = false) →
  (∃ n0, (loopP (fun (y1 : Int) k2 =>
      ((((decide (y1 < (((List.length p0) : Nat) : Int))) = true) →
      (((0 : Int) ≤ y1) ∧
        ((y1 < (((List.length p0) : Nat) : Int)) ∧
        (((0 : Int) ≤ y1) ∧
        ((y1 < (((List.length p1) : Nat) : Int)) ∧
        ((((!(((List.getD p0 (Int.toNat y1) ((0 : Int), (0 : Int))).1 == (List.getD p1 (Int.toNat y1) ((0 : Int), (0 : Int))).1) && (((List.getD p0 (Int.toNat y1) ((0 : Int), (0 : Int))).2 == (List.getD p1 (Int.toNat y1) ((0 : Int), (0 : Int))).2) && true))) = true) →
        (K false)) ∧
        (((!(((List.getD p0 (Int.toNat y1) ((0 : Int), (0 : Int))).1 == (List.getD p1 (Int.toNat y1) ((0 : Int), (0 : Int))).1) && (((List.getD p0 (Int.toNat y1) ((0 : Int), (0 : Int))).2 == (List.getD p1 (Int.toNat y1) ((0 : Int), (0 : Int))).2) && true))) = false) →
        (k2 (Go.IntKind.wrap .i64 (y1 + (1 : Int))))))))))) ∧
      (((decide (y1 < (((List.length p0) : Nat) : Int))) = false) →
      (K true)))) n0 (0 : Int)))))
set_option maxHeartbeats 4000000 in
theorem w_base_Ranges_eq (p0 : (List (Int × Int))) (p1 : (List (Int × Int))) (K : Bool → Prop) : tfn F_base_Ranges A_base_Ranges C_base_Ranges P_base_Ranges R_base_Ranges (p0, p1) K = w_base_Ranges p0 p1 K := by kernel_rfl
def st_base_Ranges_0 (p0 : (List (Int × Int))) (p1 : (List (Int × Int))) (y1 : Int) : Int ⊕ Bool :=
  (cond (decide (y1 < (((List.length p0) : Nat) : Int))) (cond (!(((List.getD p0 (Int.toNat y1) ((0 : Int), (0 : Int))).1 == (List.getD p1 (Int.toNat y1) ((0 : Int), (0 : Int))).1) && (((List.getD p0 (Int.toNat y1) ((0 : Int), (0 : Int))).2 == (List.getD p1 (Int.toNat y1) ((0 : Int), (0 : Int))).2) && true))) (Sum.inr false)
    (Sum.inl (Go.IntKind.wrap .i64 (y1 + (1 : Int)))))
    (Sum.inr true))
abbrev sp_base_Ranges_0 (p0 : (List (Int × Int))) (p1 : (List (Int × Int))) (y1 : Int) : List Prop := [(((decide (y1 < (((List.length p0) : Nat) : Int))) = true) → ((0 : Int) ≤ y1)),
    (((decide (y1 < (((List.length p0) : Nat) : Int))) = true) → (y1 < (((List.length p0) : Nat) : Int))),
    (((decide (y1 < (((List.length p0) : Nat) : Int))) = true) → (y1 < (((List.length p1) : Nat) : Int)))]
def s_base_Ranges (p0 : (List (Int × Int))) (p1 : (List (Int × Int))) : Bool :=
  (cond ((((List.length p0) : Nat) : Int) != (((List.length p1) : Nat) : Int)) false
    (lpv false (st_base_Ranges_0 p0 p1) (0 : Int)))
abbrev pre_base_Ranges (p0 : (List (Int × Int))) (p1 : (List (Int × Int))) : List Prop := [((((((List.length p0) : Nat) : Int) != (((List.length p1) : Nat) : Int)) = false) → (OkL (st_base_Ranges_0 p0 p1) (sp_base_Ranges_0 p0 p1) (0 : Int)))]
set_option maxHeartbeats 4000000 in
theorem d_base_Ranges (p0 : (List (Int × Int))) (p1 : (List (Int × Int))) (K : Bool → Prop) (hp : ∀ p ∈ pre_base_Ranges p0 p1, p) (h : K (s_base_Ranges p0 p1)) : w_base_Ranges p0 p1 K := by
  unfold w_base_Ranges
  unfold s_base_Ranges at h
  obtain ⟨hp0, _⟩ := conj_of hp
  exact (br' h (fun e0 h => h)
    (fun e0 h => (loop_gen (hp0 e0) h (fun y1 k1 hp h => by
  unfold st_base_Ranges_0 at h; obtain ⟨hp0, hp1, hp2, _⟩ := conj_of hp
  exact (br' h (fun e2 h => ⟨(hp0 e2), ⟨(hp1 e2), ⟨(hp0 e2), ⟨(hp2 e2), (br' h (fun e3 h => h)
    (fun e3 h => h))⟩⟩⟩⟩)
    (fun e2 h => h))))))
theorem l_base_Ranges_0 (p0 p1 : List (Int × Int)) (hl : lenOk p0) (he : p0.length = p1.length) : OkL (st_base_Ranges_0 p0 p1) (sp_base_Ranges_0 p0 p1) 0 ∧ lpv false (st_base_Ranges_0 p0 p1) 0 = v_scan (fun i x => cond (!(((x.1 == (p1.getD i.toNat (0, 0)).1) && ((x.2 == (p1.getD i.toNat (0, 0)).2) && true)))) (some false) none) true 0 p0 := by
  refine scan_is p0 (0, 0) (fun i x => cond (!(((x.1 == (p1.getD i.toNat (0, 0)).1) && ((x.2 == (p1.getD i.toNat (0, 0)).2) && true)))) (some false) none) true hl ?_ ?_
  · refine ⟨by simp only [sp_base_Ranges_0, List.forall_mem_cons, decide_eq_true_eq]; simp, by simp [st_base_Ranges_0]⟩
  · intro j hj
    have hj' : (j : Int) < p0.length := by omega
    refine ⟨by simp only [sp_base_Ranges_0, List.forall_mem_cons, decide_eq_true_eq, Int.toNat_natCast]; simp <;> omega, ?_⟩
    simp only [st_base_Ranges_0, hj', decide_true, Int.toNat_natCast, cond_true, wrap_nat (show (j : Int) ≤ 9223372036854775806 by unfold lenOk at hl; omega)]
    generalize p0.getD j (0, 0) = x
    generalize p1.getD j (0, 0) = z
    cases (x.1 == z.1) <;> cases (x.2 == z.2) <;> rfl
abbrev t_base_Ranges (p0 p1 : List (Int × Int)) : Bool := decide (p0 = p1)
abbrev qre_base_Ranges (p0 p1 : List (Int × Int)) : List Prop := [lenOk p0]
theorem pp_base_Ranges (p0 p1 : List (Int × Int)) (hq : ∀ p ∈ qre_base_Ranges p0 p1, p) : ∀ p ∈ pre_base_Ranges p0 p1, p := by
  simp only [pre_base_Ranges, List.forall_mem_cons]
  refine ⟨fun h => (l_base_Ranges_0 p0 p1 (conj_of hq).1 ?_).1, by simp⟩
  have h' : (p0.length : Int) = p1.length := by simpa using h
  omega
theorem tt_base_Ranges (p0 p1 : List (Int × Int)) (hq : ∀ p ∈ qre_base_Ranges p0 p1, p) : s_base_Ranges p0 p1 = t_base_Ranges p0 p1 := by
  unfold s_base_Ranges t_base_Ranges
  by_cases h : p0.length = p1.length
  · rw [show ((p0.length : Int) != (p1.length : Int)) = false by simp [h]]
    refine (l_base_Ranges_0 p0 p1 (conj_of hq).1 h).2.trans ?_
    exact v_scan_eq (0, 0) (fun x y => ((x.1 == y.1) && ((x.2 == y.2) && true))) (fun x y => by by_cases h1 : x.1 = y.1 <;> by_cases h2 : x.2 = y.2 <;> simp [h1, h2, Prod.ext_iff]) p0 p1 h
  · rw [show ((p0.length : Int) != (p1.length : Int)) = true by simp; omega]
    have : p0 ≠ p1 := fun e => h (congrArg List.length e)
    simp [this]

abbrev con_base_Ranges : Con := ⟨P_base_Ranges, R_base_Ranges, fun x => qre_base_Ranges x.1 x.2, fun x => t_base_Ranges x.1 x.2⟩
theorem ok_base_Ranges : ConOk Tryd.prog 33 con_base_Ranges := ⟨k_base_Ranges, fun x hx => ret_tf (ps := P_base_Ranges) (rs := R_base_Ranges) (x := x) (y := t_base_Ranges x.1 x.2) e_base_Ranges hC_base_Ranges (tf_of (w_base_Ranges_eq x.1 x.2 (fun z => z = t_base_Ranges x.1 x.2)) (d_base_Ranges x.1 x.2 (fun z => z = t_base_Ranges x.1 x.2) (pp_base_Ranges x.1 x.2 hx) (tt_base_Ranges x.1 x.2 hx)))⟩
/- law05_GravityFilters -/
def C_law05_GravityFilters : Cons := [(15, [], con_law05_awake), (16, [], con_law05_light), (25, [], con_law05_few), (18, [], con_ref05_CopyFilter), (73, [], con_gravity_SumOf), (74, [], con_gravity_GainAt), (28, [], con_base_CopyRanges), (64, [], con_gravity_Filtered), (20, [], con_ref05_FilterErr), (75, [], con_gravity_CheckFilter), (76, [], con_ref05_Sum), (63, [], con_ref05_WithinErr), (77, [], con_ref05_Gain), (38, [], con_ref05_HeightsErr), (78, [], con_ref05_Filtered), (33, [], con_base_Ranges)]
theorem hC_law05_GravityFilters : ConsOk Tryd.prog C_law05_GravityFilters := ConsOk.cons ok_law05_awake <| ConsOk.cons ok_law05_light <| ConsOk.cons ok_law05_few <| ConsOk.cons ok_ref05_CopyFilter <| ConsOk.cons ok_gravity_SumOf <| ConsOk.cons ok_gravity_GainAt <| ConsOk.cons ok_base_CopyRanges <| ConsOk.cons ok_gravity_Filtered <| ConsOk.cons ok_ref05_FilterErr <| ConsOk.cons ok_gravity_CheckFilter <| ConsOk.cons ok_ref05_Sum <| ConsOk.cons ok_ref05_WithinErr <| ConsOk.cons ok_ref05_Gain <| ConsOk.cons ok_ref05_HeightsErr <| ConsOk.cons ok_ref05_Filtered <| ConsOk.cons ok_base_Ranges <| ConsOk.nil
def w_law05_GravityFilters (p0 : (List Int)) (p1 : Int) (p2 : (List (Int × Int))) (K : Bool → Prop) : Prop :=
  ((((!(s_law05_awake)) = true) →
  (K false)) ∧
  (((!(s_law05_awake)) = false) →
  ((((!(s_law05_light p0)) = false) →
    ((!(s_law05_light p0)) = (!(s_law05_light p0)))) ∧
    ((((!(s_law05_light p0)) = false) →
    ((!(s_law05_light p0)) = (!(s_law05_light p0)))) ∧
    (((!(s_law05_light p0)) = (!(s_law05_light p0))) ∧
    ((((cond (!(s_law05_light p0)) true (!(s_law05_few p2))) = true) →
    (K true)) ∧
    (((cond (!(s_law05_light p0)) true (!(s_law05_few p2))) = false) →
    (((List.length p0) ≤ 1000000) ∧
      ((lenOk (s_ref05_CopyFilter p0)) ∧
      (((((v_filerr (s_ref05_CopyFilter p0)) != (0 : Int)) = false) →
      (v_fw (s_ref05_CopyFilter p0))) ∧
      (((List.length p0) ≤ 1000000) ∧
      ((lenOk (s_ref05_CopyFilter p0)) ∧
      (((List.length p0) ≤ 1000000) ∧
      (((List.length p2) ≤ 1000000) ∧
      ((lenOk (s_ref05_CopyFilter p0)) ∧
      (((List.length p0) ≤ 1000000) ∧
      ((lenOk (s_ref05_CopyFilter p0)) ∧
      (((((v_filerr (s_ref05_CopyFilter p0)) != (v_filerr p0)) = true) →
      (K false)) ∧
      ((((v_filerr (s_ref05_CopyFilter p0)) != (v_filerr p0)) = false) →
      (((((v_filerr p0) != (0 : Int)) = true) →
        (((((s_gravity_SumOf (s_ref05_CopyFilter p0)).2 == (v_filerr p0)) = true) →
          (((s_gravity_SumOf (s_ref05_CopyFilter p0)).2 == (v_filerr p0)) = ((s_gravity_SumOf (s_ref05_CopyFilter p0)).2 == (v_filerr p0)))) ∧
          (((((s_gravity_SumOf (s_ref05_CopyFilter p0)).2 == (v_filerr p0)) = true) →
          (((s_gravity_SumOf (s_ref05_CopyFilter p0)).2 == (v_filerr p0)) = ((s_gravity_SumOf (s_ref05_CopyFilter p0)).2 == (v_filerr p0)))) ∧
          ((((s_gravity_SumOf (s_ref05_CopyFilter p0)).2 == (v_filerr p0)) = ((s_gravity_SumOf (s_ref05_CopyFilter p0)).2 == (v_filerr p0))) ∧
          ((((cond ((s_gravity_SumOf (s_ref05_CopyFilter p0)).2 == (v_filerr p0)) ((t_gravity_GainAt (s_ref05_CopyFilter p0) p1).2 == (v_filerr p0)) false) = true) →
          ((cond ((s_gravity_SumOf (s_ref05_CopyFilter p0)).2 == (v_filerr p0)) ((t_gravity_GainAt (s_ref05_CopyFilter p0) p1).2 == (v_filerr p0)) false) = (cond ((s_gravity_SumOf (s_ref05_CopyFilter p0)).2 == (v_filerr p0)) ((t_gravity_GainAt (s_ref05_CopyFilter p0) p1).2 == (v_filerr p0)) false))) ∧
          ((((cond ((s_gravity_SumOf (s_ref05_CopyFilter p0)).2 == (v_filerr p0)) ((t_gravity_GainAt (s_ref05_CopyFilter p0) p1).2 == (v_filerr p0)) false) = true) →
          ((cond ((s_gravity_SumOf (s_ref05_CopyFilter p0)).2 == (v_filerr p0)) ((t_gravity_GainAt (s_ref05_CopyFilter p0) p1).2 == (v_filerr p0)) false) = (cond ((s_gravity_SumOf (s_ref05_CopyFilter p0)).2 == (v_filerr p0)) ((t_gravity_GainAt (s_ref05_CopyFilter p0) p1).2 == (v_filerr p0)) false))) ∧
          (((cond ((s_gravity_SumOf (s_ref05_CopyFilter p0)).2 == (v_filerr p0)) ((t_gravity_GainAt (s_ref05_CopyFilter p0) p1).2 == (v_filerr p0)) false) = (cond ((s_gravity_SumOf (s_ref05_CopyFilter p0)).2 == (v_filerr p0)) ((t_gravity_GainAt (s_ref05_CopyFilter p0) p1).2 == (v_filerr p0)) false)) ∧
          ((((cond (cond ((s_gravity_SumOf (s_ref05_CopyFilter p0)).2 == (v_filerr p0)) ((t_gravity_GainAt (s_ref05_CopyFilter p0) p1).2 == (v_filerr p0)) false) ((t_gravity_Filtered (s_ref05_CopyFilter p0) p2).2 == (v_filerr p0)) false) = true) →
          ((cond (cond ((s_gravity_SumOf (s_ref05_CopyFilter p0)).2 == (v_filerr p0)) ((t_gravity_GainAt (s_ref05_CopyFilter p0) p1).2 == (v_filerr p0)) false) ((t_gravity_Filtered (s_ref05_CopyFilter p0) p2).2 == (v_filerr p0)) false) = (cond (cond ((s_gravity_SumOf (s_ref05_CopyFilter p0)).2 == (v_filerr p0)) ((t_gravity_GainAt (s_ref05_CopyFilter p0) p1).2 == (v_filerr p0)) false) ((t_gravity_Filtered (s_ref05_CopyFilter p0) p2).2 == (v_filerr p0)) false))) ∧
          (((cond (cond ((s_gravity_SumOf (s_ref05_CopyFilter p0)).2 == (v_filerr p0)) ((t_gravity_GainAt (s_ref05_CopyFilter p0) p1).2 == (v_filerr p0)) false) ((t_gravity_Filtered (s_ref05_CopyFilter p0) p2).2 == (v_filerr p0)) false) = (cond (cond ((s_gravity_SumOf (s_ref05_CopyFilter p0)).2 == (v_filerr p0)) ((t_gravity_GainAt (s_ref05_CopyFilter p0) p1).2 == (v_filerr p0)) false) ((t_gravity_Filtered (s_ref05_CopyFilter p0) p2).2 == (v_filerr p0)) false)) ∧
          ((((cond (cond (cond ((s_gravity_SumOf (s_ref05_CopyFilter p0)).2 == (v_filerr p0)) ((t_gravity_GainAt (s_ref05_CopyFilter p0) p1).2 == (v_filerr p0)) false) ((t_gravity_Filtered (s_ref05_CopyFilter p0) p2).2 == (v_filerr p0)) false) ((s_gravity_SumOf (s_ref05_CopyFilter p0)).1 == (0 : Int)) false) = true) →
          ((cond (cond (cond ((s_gravity_SumOf (s_ref05_CopyFilter p0)).2 == (v_filerr p0)) ((t_gravity_GainAt (s_ref05_CopyFilter p0) p1).2 == (v_filerr p0)) false) ((t_gravity_Filtered (s_ref05_CopyFilter p0) p2).2 == (v_filerr p0)) false) ((s_gravity_SumOf (s_ref05_CopyFilter p0)).1 == (0 : Int)) false) = (cond (cond (cond ((s_gravity_SumOf (s_ref05_CopyFilter p0)).2 == (v_filerr p0)) ((t_gravity_GainAt (s_ref05_CopyFilter p0) p1).2 == (v_filerr p0)) false) ((t_gravity_Filtered (s_ref05_CopyFilter p0) p2).2 == (v_filerr p0)) false) ((s_gravity_SumOf (s_ref05_CopyFilter p0)).1 == (0 : Int)) false))) ∧
          (((cond (cond (cond ((s_gravity_SumOf (s_ref05_CopyFilter p0)).2 == (v_filerr p0)) ((t_gravity_GainAt (s_ref05_CopyFilter p0) p1).2 == (v_filerr p0)) false) ((t_gravity_Filtered (s_ref05_CopyFilter p0) p2).2 == (v_filerr p0)) false) ((s_gravity_SumOf (s_ref05_CopyFilter p0)).1 == (0 : Int)) false) = (cond (cond (cond ((s_gravity_SumOf (s_ref05_CopyFilter p0)).2 == (v_filerr p0)) ((t_gravity_GainAt (s_ref05_CopyFilter p0) p1).2 == (v_filerr p0)) false) ((t_gravity_Filtered (s_ref05_CopyFilter p0) p2).2 == (v_filerr p0)) false) ((s_gravity_SumOf (s_ref05_CopyFilter p0)).1 == (0 : Int)) false)) ∧
          ((((cond (cond (cond (cond ((s_gravity_SumOf (s_ref05_CopyFilter p0)).2 == (v_filerr p0)) ((t_gravity_GainAt (s_ref05_CopyFilter p0) p1).2 == (v_filerr p0)) false) ((t_gravity_Filtered (s_ref05_CopyFilter p0) p2).2 == (v_filerr p0)) false) ((s_gravity_SumOf (s_ref05_CopyFilter p0)).1 == (0 : Int)) false) ((t_gravity_GainAt (s_ref05_CopyFilter p0) p1).1 == (0 : Int)) false) = true) →
          ((cond (cond (cond (cond ((s_gravity_SumOf (s_ref05_CopyFilter p0)).2 == (v_filerr p0)) ((t_gravity_GainAt (s_ref05_CopyFilter p0) p1).2 == (v_filerr p0)) false) ((t_gravity_Filtered (s_ref05_CopyFilter p0) p2).2 == (v_filerr p0)) false) ((s_gravity_SumOf (s_ref05_CopyFilter p0)).1 == (0 : Int)) false) ((t_gravity_GainAt (s_ref05_CopyFilter p0) p1).1 == (0 : Int)) false) = (cond (cond (cond (cond ((s_gravity_SumOf (s_ref05_CopyFilter p0)).2 == (v_filerr p0)) ((t_gravity_GainAt (s_ref05_CopyFilter p0) p1).2 == (v_filerr p0)) false) ((t_gravity_Filtered (s_ref05_CopyFilter p0) p2).2 == (v_filerr p0)) false) ((s_gravity_SumOf (s_ref05_CopyFilter p0)).1 == (0 : Int)) false) ((t_gravity_GainAt (s_ref05_CopyFilter p0) p1).1 == (0 : Int)) false))) ∧
          ((((cond (cond (cond (cond ((s_gravity_SumOf (s_ref05_CopyFilter p0)).2 == (v_filerr p0)) ((t_gravity_GainAt (s_ref05_CopyFilter p0) p1).2 == (v_filerr p0)) false) ((t_gravity_Filtered (s_ref05_CopyFilter p0) p2).2 == (v_filerr p0)) false) ((s_gravity_SumOf (s_ref05_CopyFilter p0)).1 == (0 : Int)) false) ((t_gravity_GainAt (s_ref05_CopyFilter p0) p1).1 == (0 : Int)) false) = true) →
          ((cond (cond (cond (cond ((s_gravity_SumOf (s_ref05_CopyFilter p0)).2 == (v_filerr p0)) ((t_gravity_GainAt (s_ref05_CopyFilter p0) p1).2 == (v_filerr p0)) false) ((t_gravity_Filtered (s_ref05_CopyFilter p0) p2).2 == (v_filerr p0)) false) ((s_gravity_SumOf (s_ref05_CopyFilter p0)).1 == (0 : Int)) false) ((t_gravity_GainAt (s_ref05_CopyFilter p0) p1).1 == (0 : Int)) false) = (cond (cond (cond (cond ((s_gravity_SumOf (s_ref05_CopyFilter p0)).2 == (v_filerr p0)) ((t_gravity_GainAt (s_ref05_CopyFilter p0) p1).2 == (v_filerr p0)) false) ((t_gravity_Filtered (s_ref05_CopyFilter p0) p2).2 == (v_filerr p0)) false) ((s_gravity_SumOf (s_ref05_CopyFilter p0)).1 == (0 : Int)) false) ((t_gravity_GainAt (s_ref05_CopyFilter p0) p1).1 == (0 : Int)) false))) ∧
          (((cond (cond (cond (cond ((s_gravity_SumOf (s_ref05_CopyFilter p0)).2 == (v_filerr p0)) ((t_gravity_GainAt (s_ref05_CopyFilter p0) p1).2 == (v_filerr p0)) false) ((t_gravity_Filtered (s_ref05_CopyFilter p0) p2).2 == (v_filerr p0)) false) ((s_gravity_SumOf (s_ref05_CopyFilter p0)).1 == (0 : Int)) false) ((t_gravity_GainAt (s_ref05_CopyFilter p0) p1).1 == (0 : Int)) false) = (cond (cond (cond (cond ((s_gravity_SumOf (s_ref05_CopyFilter p0)).2 == (v_filerr p0)) ((t_gravity_GainAt (s_ref05_CopyFilter p0) p1).2 == (v_filerr p0)) false) ((t_gravity_Filtered (s_ref05_CopyFilter p0) p2).2 == (v_filerr p0)) false) ((s_gravity_SumOf (s_ref05_CopyFilter p0)).1 == (0 : Int)) false) ((t_gravity_GainAt (s_ref05_CopyFilter p0) p1).1 == (0 : Int)) false)) ∧
          (K (cond (cond (cond (cond (cond ((s_gravity_SumOf (s_ref05_CopyFilter p0)).2 == (v_filerr p0)) ((t_gravity_GainAt (s_ref05_CopyFilter p0) p1).2 == (v_filerr p0)) false) ((t_gravity_Filtered (s_ref05_CopyFilter p0) p2).2 == (v_filerr p0)) false) ((s_gravity_SumOf (s_ref05_CopyFilter p0)).1 == (0 : Int)) false) ((t_gravity_GainAt (s_ref05_CopyFilter p0) p1).1 == (0 : Int)) false) ((((List.length (t_gravity_Filtered (s_ref05_CopyFilter p0) p2).1) : Nat) : Int) == (0 : Int)) false)))))))))))))))) ∧
        ((((v_filerr p0) != (0 : Int)) = false) →
        (((((s_gravity_SumOf (s_ref05_CopyFilter p0)).2 != (0 : Int)) = false) →
          (((s_gravity_SumOf (s_ref05_CopyFilter p0)).2 != (0 : Int)) = ((s_gravity_SumOf (s_ref05_CopyFilter p0)).2 != (0 : Int)))) ∧
          (((((s_gravity_SumOf (s_ref05_CopyFilter p0)).2 != (0 : Int)) = false) →
          (v_fw p0)) ∧
          (((((s_gravity_SumOf (s_ref05_CopyFilter p0)).2 != (0 : Int)) = false) →
          (((s_gravity_SumOf (s_ref05_CopyFilter p0)).2 != (0 : Int)) = ((s_gravity_SumOf (s_ref05_CopyFilter p0)).2 != (0 : Int)))) ∧
          (((((s_gravity_SumOf (s_ref05_CopyFilter p0)).2 != (0 : Int)) = false) →
          (((s_gravity_SumOf (s_ref05_CopyFilter p0)).2 != (0 : Int)) = ((s_gravity_SumOf (s_ref05_CopyFilter p0)).2 != (0 : Int)))) ∧
          ((((s_gravity_SumOf (s_ref05_CopyFilter p0)).2 != (0 : Int)) = ((s_gravity_SumOf (s_ref05_CopyFilter p0)).2 != (0 : Int))) ∧
          ((((cond ((s_gravity_SumOf (s_ref05_CopyFilter p0)).2 != (0 : Int)) true ((s_gravity_SumOf (s_ref05_CopyFilter p0)).1 != (v_fsum p0))) = true) →
          (K false)) ∧
          (((cond ((s_gravity_SumOf (s_ref05_CopyFilter p0)).2 != (0 : Int)) true ((s_gravity_SumOf (s_ref05_CopyFilter p0)).1 != (v_fsum p0))) = false) →
          (((((s_ref05_WithinErr p1 (3 : Int)) != (0 : Int)) = true) →
            (((s_ref05_WithinErr p1 (3 : Int)) != (0 : Int)) = ((s_ref05_WithinErr p1 (3 : Int)) != (0 : Int)))) ∧
            (((((s_ref05_WithinErr p1 (3 : Int)) != (0 : Int)) = true) →
            (((s_ref05_WithinErr p1 (3 : Int)) != (0 : Int)) = ((s_ref05_WithinErr p1 (3 : Int)) != (0 : Int)))) ∧
            (((((s_ref05_WithinErr p1 (3 : Int)) != (0 : Int)) = true) →
            (((s_ref05_WithinErr p1 (3 : Int)) != (0 : Int)) = ((s_ref05_WithinErr p1 (3 : Int)) != (0 : Int)))) ∧
            (((((!((s_ref05_WithinErr p1 (3 : Int)) != (0 : Int))) || ((t_gravity_GainAt (s_ref05_CopyFilter p0) p1).2 != (s_ref05_WithinErr p1 (3 : Int)))) = false) →
            (((!((s_ref05_WithinErr p1 (3 : Int)) != (0 : Int))) || ((t_gravity_GainAt (s_ref05_CopyFilter p0) p1).2 != (s_ref05_WithinErr p1 (3 : Int)))) = ((!((s_ref05_WithinErr p1 (3 : Int)) != (0 : Int))) || ((t_gravity_GainAt (s_ref05_CopyFilter p0) p1).2 != (s_ref05_WithinErr p1 (3 : Int)))))) ∧
            (((((s_ref05_WithinErr p1 (3 : Int)) != (0 : Int)) = true) →
            (((s_ref05_WithinErr p1 (3 : Int)) != (0 : Int)) = ((s_ref05_WithinErr p1 (3 : Int)) != (0 : Int)))) ∧
            (((((s_ref05_WithinErr p1 (3 : Int)) != (0 : Int)) = true) →
            (((!((s_ref05_WithinErr p1 (3 : Int)) != (0 : Int))) || ((t_gravity_GainAt (s_ref05_CopyFilter p0) p1).2 != (s_ref05_WithinErr p1 (3 : Int)))) = ((t_gravity_GainAt (s_ref05_CopyFilter p0) p1).2 != (s_ref05_WithinErr p1 (3 : Int))))) ∧
            ((((s_ref05_WithinErr p1 (3 : Int)) != (0 : Int)) = ((s_ref05_WithinErr p1 (3 : Int)) != (0 : Int))) ∧
            ((((cond ((s_ref05_WithinErr p1 (3 : Int)) != (0 : Int)) (cond ((t_gravity_GainAt (s_ref05_CopyFilter p0) p1).2 != (s_ref05_WithinErr p1 (3 : Int))) true ((t_gravity_GainAt (s_ref05_CopyFilter p0) p1).1 != (0 : Int))) false) = false) →
            ((cond ((s_ref05_WithinErr p1 (3 : Int)) != (0 : Int)) (cond ((t_gravity_GainAt (s_ref05_CopyFilter p0) p1).2 != (s_ref05_WithinErr p1 (3 : Int))) true ((t_gravity_GainAt (s_ref05_CopyFilter p0) p1).1 != (0 : Int))) false) = (cond ((s_ref05_WithinErr p1 (3 : Int)) != (0 : Int)) (cond ((t_gravity_GainAt (s_ref05_CopyFilter p0) p1).2 != (s_ref05_WithinErr p1 (3 : Int))) true ((t_gravity_GainAt (s_ref05_CopyFilter p0) p1).1 != (0 : Int))) false))) ∧
            ((((cond ((s_ref05_WithinErr p1 (3 : Int)) != (0 : Int)) (cond ((t_gravity_GainAt (s_ref05_CopyFilter p0) p1).2 != (s_ref05_WithinErr p1 (3 : Int))) true ((t_gravity_GainAt (s_ref05_CopyFilter p0) p1).1 != (0 : Int))) false) = false) →
            ((cond ((s_ref05_WithinErr p1 (3 : Int)) != (0 : Int)) (cond ((t_gravity_GainAt (s_ref05_CopyFilter p0) p1).2 != (s_ref05_WithinErr p1 (3 : Int))) true ((t_gravity_GainAt (s_ref05_CopyFilter p0) p1).1 != (0 : Int))) false) = (cond ((s_ref05_WithinErr p1 (3 : Int)) != (0 : Int)) (cond ((t_gravity_GainAt (s_ref05_CopyFilter p0) p1).2 != (s_ref05_WithinErr p1 (3 : Int))) true ((t_gravity_GainAt (s_ref05_CopyFilter p0) p1).1 != (0 : Int))) false))) ∧
            (((((!(cond ((s_ref05_WithinErr p1 (3 : Int)) != (0 : Int)) (cond ((t_gravity_GainAt (s_ref05_CopyFilter p0) p1).2 != (s_ref05_WithinErr p1 (3 : Int))) true ((t_gravity_GainAt (s_ref05_CopyFilter p0) p1).1 != (0 : Int))) false)) && ((s_ref05_WithinErr p1 (3 : Int)) == (0 : Int))) = true) →
            (((!(cond ((s_ref05_WithinErr p1 (3 : Int)) != (0 : Int)) (cond ((t_gravity_GainAt (s_ref05_CopyFilter p0) p1).2 != (s_ref05_WithinErr p1 (3 : Int))) true ((t_gravity_GainAt (s_ref05_CopyFilter p0) p1).1 != (0 : Int))) false)) && ((s_ref05_WithinErr p1 (3 : Int)) == (0 : Int))) = ((!(cond ((s_ref05_WithinErr p1 (3 : Int)) != (0 : Int)) (cond ((t_gravity_GainAt (s_ref05_CopyFilter p0) p1).2 != (s_ref05_WithinErr p1 (3 : Int))) true ((t_gravity_GainAt (s_ref05_CopyFilter p0) p1).1 != (0 : Int))) false)) && ((s_ref05_WithinErr p1 (3 : Int)) == (0 : Int))))) ∧
            (((((!(cond ((s_ref05_WithinErr p1 (3 : Int)) != (0 : Int)) (cond ((t_gravity_GainAt (s_ref05_CopyFilter p0) p1).2 != (s_ref05_WithinErr p1 (3 : Int))) true ((t_gravity_GainAt (s_ref05_CopyFilter p0) p1).1 != (0 : Int))) false)) && ((s_ref05_WithinErr p1 (3 : Int)) == (0 : Int))) = true) →
            (((!(cond ((s_ref05_WithinErr p1 (3 : Int)) != (0 : Int)) (cond ((t_gravity_GainAt (s_ref05_CopyFilter p0) p1).2 != (s_ref05_WithinErr p1 (3 : Int))) true ((t_gravity_GainAt (s_ref05_CopyFilter p0) p1).1 != (0 : Int))) false)) && ((s_ref05_WithinErr p1 (3 : Int)) == (0 : Int))) = ((!(cond ((s_ref05_WithinErr p1 (3 : Int)) != (0 : Int)) (cond ((t_gravity_GainAt (s_ref05_CopyFilter p0) p1).2 != (s_ref05_WithinErr p1 (3 : Int))) true ((t_gravity_GainAt (s_ref05_CopyFilter p0) p1).1 != (0 : Int))) false)) && ((s_ref05_WithinErr p1 (3 : Int)) == (0 : Int))))) ∧
            (((((!((!(cond ((s_ref05_WithinErr p1 (3 : Int)) != (0 : Int)) (cond ((t_gravity_GainAt (s_ref05_CopyFilter p0) p1).2 != (s_ref05_WithinErr p1 (3 : Int))) true ((t_gravity_GainAt (s_ref05_CopyFilter p0) p1).1 != (0 : Int))) false)) && ((s_ref05_WithinErr p1 (3 : Int)) == (0 : Int)))) || ((t_gravity_GainAt (s_ref05_CopyFilter p0) p1).2 != (0 : Int))) = false) →
            (((!((!(cond ((s_ref05_WithinErr p1 (3 : Int)) != (0 : Int)) (cond ((t_gravity_GainAt (s_ref05_CopyFilter p0) p1).2 != (s_ref05_WithinErr p1 (3 : Int))) true ((t_gravity_GainAt (s_ref05_CopyFilter p0) p1).1 != (0 : Int))) false)) && ((s_ref05_WithinErr p1 (3 : Int)) == (0 : Int)))) || ((t_gravity_GainAt (s_ref05_CopyFilter p0) p1).2 != (0 : Int))) = ((!((!(cond ((s_ref05_WithinErr p1 (3 : Int)) != (0 : Int)) (cond ((t_gravity_GainAt (s_ref05_CopyFilter p0) p1).2 != (s_ref05_WithinErr p1 (3 : Int))) true ((t_gravity_GainAt (s_ref05_CopyFilter p0) p1).1 != (0 : Int))) false)) && ((s_ref05_WithinErr p1 (3 : Int)) == (0 : Int)))) || ((t_gravity_GainAt (s_ref05_CopyFilter p0) p1).2 != (0 : Int))))) ∧
            (((((!((!(cond ((s_ref05_WithinErr p1 (3 : Int)) != (0 : Int)) (cond ((t_gravity_GainAt (s_ref05_CopyFilter p0) p1).2 != (s_ref05_WithinErr p1 (3 : Int))) true ((t_gravity_GainAt (s_ref05_CopyFilter p0) p1).1 != (0 : Int))) false)) && ((s_ref05_WithinErr p1 (3 : Int)) == (0 : Int)))) || ((t_gravity_GainAt (s_ref05_CopyFilter p0) p1).2 != (0 : Int))) = false) →
            (((!((!(cond ((s_ref05_WithinErr p1 (3 : Int)) != (0 : Int)) (cond ((t_gravity_GainAt (s_ref05_CopyFilter p0) p1).2 != (s_ref05_WithinErr p1 (3 : Int))) true ((t_gravity_GainAt (s_ref05_CopyFilter p0) p1).1 != (0 : Int))) false)) && ((s_ref05_WithinErr p1 (3 : Int)) == (0 : Int)))) || ((t_gravity_GainAt (s_ref05_CopyFilter p0) p1).2 != (0 : Int))) = ((!((!(cond ((s_ref05_WithinErr p1 (3 : Int)) != (0 : Int)) (cond ((t_gravity_GainAt (s_ref05_CopyFilter p0) p1).2 != (s_ref05_WithinErr p1 (3 : Int))) true ((t_gravity_GainAt (s_ref05_CopyFilter p0) p1).1 != (0 : Int))) false)) && ((s_ref05_WithinErr p1 (3 : Int)) == (0 : Int)))) || ((t_gravity_GainAt (s_ref05_CopyFilter p0) p1).2 != (0 : Int))))) ∧
            (((((!((!(cond ((s_ref05_WithinErr p1 (3 : Int)) != (0 : Int)) (cond ((t_gravity_GainAt (s_ref05_CopyFilter p0) p1).2 != (s_ref05_WithinErr p1 (3 : Int))) true ((t_gravity_GainAt (s_ref05_CopyFilter p0) p1).1 != (0 : Int))) false)) && ((s_ref05_WithinErr p1 (3 : Int)) == (0 : Int)))) || ((t_gravity_GainAt (s_ref05_CopyFilter p0) p1).2 != (0 : Int))) = false) →
            (v_fw p0)) ∧
            (((((!((!(cond ((s_ref05_WithinErr p1 (3 : Int)) != (0 : Int)) (cond ((t_gravity_GainAt (s_ref05_CopyFilter p0) p1).2 != (s_ref05_WithinErr p1 (3 : Int))) true ((t_gravity_GainAt (s_ref05_CopyFilter p0) p1).1 != (0 : Int))) false)) && ((s_ref05_WithinErr p1 (3 : Int)) == (0 : Int)))) || ((t_gravity_GainAt (s_ref05_CopyFilter p0) p1).2 != (0 : Int))) = false) →
            (((0 : Int) ≤ p1) ∧
              (p1 ≤ (3 : Int)))) ∧
            (((((!((!(cond ((s_ref05_WithinErr p1 (3 : Int)) != (0 : Int)) (cond ((t_gravity_GainAt (s_ref05_CopyFilter p0) p1).2 != (s_ref05_WithinErr p1 (3 : Int))) true ((t_gravity_GainAt (s_ref05_CopyFilter p0) p1).1 != (0 : Int))) false)) && ((s_ref05_WithinErr p1 (3 : Int)) == (0 : Int)))) || ((t_gravity_GainAt (s_ref05_CopyFilter p0) p1).2 != (0 : Int))) = false) →
            (((!((!(cond ((s_ref05_WithinErr p1 (3 : Int)) != (0 : Int)) (cond ((t_gravity_GainAt (s_ref05_CopyFilter p0) p1).2 != (s_ref05_WithinErr p1 (3 : Int))) true ((t_gravity_GainAt (s_ref05_CopyFilter p0) p1).1 != (0 : Int))) false)) && ((s_ref05_WithinErr p1 (3 : Int)) == (0 : Int)))) || ((t_gravity_GainAt (s_ref05_CopyFilter p0) p1).2 != (0 : Int))) = ((!((!(cond ((s_ref05_WithinErr p1 (3 : Int)) != (0 : Int)) (cond ((t_gravity_GainAt (s_ref05_CopyFilter p0) p1).2 != (s_ref05_WithinErr p1 (3 : Int))) true ((t_gravity_GainAt (s_ref05_CopyFilter p0) p1).1 != (0 : Int))) false)) && ((s_ref05_WithinErr p1 (3 : Int)) == (0 : Int)))) || ((t_gravity_GainAt (s_ref05_CopyFilter p0) p1).2 != (0 : Int))))) ∧
            (((((!((!(cond ((s_ref05_WithinErr p1 (3 : Int)) != (0 : Int)) (cond ((t_gravity_GainAt (s_ref05_CopyFilter p0) p1).2 != (s_ref05_WithinErr p1 (3 : Int))) true ((t_gravity_GainAt (s_ref05_CopyFilter p0) p1).1 != (0 : Int))) false)) && ((s_ref05_WithinErr p1 (3 : Int)) == (0 : Int)))) || ((t_gravity_GainAt (s_ref05_CopyFilter p0) p1).2 != (0 : Int))) = false) →
            (((!((!(cond ((s_ref05_WithinErr p1 (3 : Int)) != (0 : Int)) (cond ((t_gravity_GainAt (s_ref05_CopyFilter p0) p1).2 != (s_ref05_WithinErr p1 (3 : Int))) true ((t_gravity_GainAt (s_ref05_CopyFilter p0) p1).1 != (0 : Int))) false)) && ((s_ref05_WithinErr p1 (3 : Int)) == (0 : Int)))) || ((t_gravity_GainAt (s_ref05_CopyFilter p0) p1).2 != (0 : Int))) = ((!((!(cond ((s_ref05_WithinErr p1 (3 : Int)) != (0 : Int)) (cond ((t_gravity_GainAt (s_ref05_CopyFilter p0) p1).2 != (s_ref05_WithinErr p1 (3 : Int))) true ((t_gravity_GainAt (s_ref05_CopyFilter p0) p1).1 != (0 : Int))) false)) && ((s_ref05_WithinErr p1 (3 : Int)) == (0 : Int)))) || ((t_gravity_GainAt (s_ref05_CopyFilter p0) p1).2 != (0 : Int))))) ∧
            (((((!(cond ((s_ref05_WithinErr p1 (3 : Int)) != (0 : Int)) (cond ((t_gravity_GainAt (s_ref05_CopyFilter p0) p1).2 != (s_ref05_WithinErr p1 (3 : Int))) true ((t_gravity_GainAt (s_ref05_CopyFilter p0) p1).1 != (0 : Int))) false)) && ((s_ref05_WithinErr p1 (3 : Int)) == (0 : Int))) = true) →
            (((!(cond ((s_ref05_WithinErr p1 (3 : Int)) != (0 : Int)) (cond ((t_gravity_GainAt (s_ref05_CopyFilter p0) p1).2 != (s_ref05_WithinErr p1 (3 : Int))) true ((t_gravity_GainAt (s_ref05_CopyFilter p0) p1).1 != (0 : Int))) false)) && ((s_ref05_WithinErr p1 (3 : Int)) == (0 : Int))) = ((!(cond ((s_ref05_WithinErr p1 (3 : Int)) != (0 : Int)) (cond ((t_gravity_GainAt (s_ref05_CopyFilter p0) p1).2 != (s_ref05_WithinErr p1 (3 : Int))) true ((t_gravity_GainAt (s_ref05_CopyFilter p0) p1).1 != (0 : Int))) false)) && ((s_ref05_WithinErr p1 (3 : Int)) == (0 : Int))))) ∧
            (((((!(cond ((s_ref05_WithinErr p1 (3 : Int)) != (0 : Int)) (cond ((t_gravity_GainAt (s_ref05_CopyFilter p0) p1).2 != (s_ref05_WithinErr p1 (3 : Int))) true ((t_gravity_GainAt (s_ref05_CopyFilter p0) p1).1 != (0 : Int))) false)) && ((s_ref05_WithinErr p1 (3 : Int)) == (0 : Int))) = true) →
            (((!((!(cond ((s_ref05_WithinErr p1 (3 : Int)) != (0 : Int)) (cond ((t_gravity_GainAt (s_ref05_CopyFilter p0) p1).2 != (s_ref05_WithinErr p1 (3 : Int))) true ((t_gravity_GainAt (s_ref05_CopyFilter p0) p1).1 != (0 : Int))) false)) && ((s_ref05_WithinErr p1 (3 : Int)) == (0 : Int)))) || ((t_gravity_GainAt (s_ref05_CopyFilter p0) p1).2 != (0 : Int))) = ((t_gravity_GainAt (s_ref05_CopyFilter p0) p1).2 != (0 : Int)))) ∧
            ((((cond ((s_ref05_WithinErr p1 (3 : Int)) != (0 : Int)) (cond ((t_gravity_GainAt (s_ref05_CopyFilter p0) p1).2 != (s_ref05_WithinErr p1 (3 : Int))) true ((t_gravity_GainAt (s_ref05_CopyFilter p0) p1).1 != (0 : Int))) false) = false) →
            ((cond ((s_ref05_WithinErr p1 (3 : Int)) != (0 : Int)) (cond ((t_gravity_GainAt (s_ref05_CopyFilter p0) p1).2 != (s_ref05_WithinErr p1 (3 : Int))) true ((t_gravity_GainAt (s_ref05_CopyFilter p0) p1).1 != (0 : Int))) false) = (cond ((s_ref05_WithinErr p1 (3 : Int)) != (0 : Int)) (cond ((t_gravity_GainAt (s_ref05_CopyFilter p0) p1).2 != (s_ref05_WithinErr p1 (3 : Int))) true ((t_gravity_GainAt (s_ref05_CopyFilter p0) p1).1 != (0 : Int))) false))) ∧
            ((((cond ((s_ref05_WithinErr p1 (3 : Int)) != (0 : Int)) (cond ((t_gravity_GainAt (s_ref05_CopyFilter p0) p1).2 != (s_ref05_WithinErr p1 (3 : Int))) true ((t_gravity_GainAt (s_ref05_CopyFilter p0) p1).1 != (0 : Int))) false) = false) →
            (((!(cond ((s_ref05_WithinErr p1 (3 : Int)) != (0 : Int)) (cond ((t_gravity_GainAt (s_ref05_CopyFilter p0) p1).2 != (s_ref05_WithinErr p1 (3 : Int))) true ((t_gravity_GainAt (s_ref05_CopyFilter p0) p1).1 != (0 : Int))) false)) && ((s_ref05_WithinErr p1 (3 : Int)) == (0 : Int))) = ((s_ref05_WithinErr p1 (3 : Int)) == (0 : Int)))) ∧
            (((cond ((s_ref05_WithinErr p1 (3 : Int)) != (0 : Int)) (cond ((t_gravity_GainAt (s_ref05_CopyFilter p0) p1).2 != (s_ref05_WithinErr p1 (3 : Int))) true ((t_gravity_GainAt (s_ref05_CopyFilter p0) p1).1 != (0 : Int))) false) = (cond ((s_ref05_WithinErr p1 (3 : Int)) != (0 : Int)) (cond ((t_gravity_GainAt (s_ref05_CopyFilter p0) p1).2 != (s_ref05_WithinErr p1 (3 : Int))) true ((t_gravity_GainAt (s_ref05_CopyFilter p0) p1).1 != (0 : Int))) false)) ∧
            ((((cond (cond ((s_ref05_WithinErr p1 (3 : Int)) != (0 : Int)) (cond ((t_gravity_GainAt (s_ref05_CopyFilter p0) p1).2 != (s_ref05_WithinErr p1 (3 : Int))) true ((t_gravity_GainAt (s_ref05_CopyFilter p0) p1).1 != (0 : Int))) false) true (cond ((s_ref05_WithinErr p1 (3 : Int)) == (0 : Int)) (cond ((t_gravity_GainAt (s_ref05_CopyFilter p0) p1).2 != (0 : Int)) true ((t_gravity_GainAt (s_ref05_CopyFilter p0) p1).1 != (v_gain p0 p1))) false)) = true) →
            (K false)) ∧
            (((cond (cond ((s_ref05_WithinErr p1 (3 : Int)) != (0 : Int)) (cond ((t_gravity_GainAt (s_ref05_CopyFilter p0) p1).2 != (s_ref05_WithinErr p1 (3 : Int))) true ((t_gravity_GainAt (s_ref05_CopyFilter p0) p1).1 != (0 : Int))) false) true (cond ((s_ref05_WithinErr p1 (3 : Int)) == (0 : Int)) (cond ((t_gravity_GainAt (s_ref05_CopyFilter p0) p1).2 != (0 : Int)) true ((t_gravity_GainAt (s_ref05_CopyFilter p0) p1).1 != (v_gain p0 p1))) false)) = false) →
            (((((s_ref05_HeightsErr p2) != (0 : Int)) = true) →
              (((((t_gravity_Filtered (s_ref05_CopyFilter p0) p2).2 == (s_ref05_HeightsErr p2)) = true) →
                (((t_gravity_Filtered (s_ref05_CopyFilter p0) p2).2 == (s_ref05_HeightsErr p2)) = ((t_gravity_Filtered (s_ref05_CopyFilter p0) p2).2 == (s_ref05_HeightsErr p2)))) ∧
                (((((t_gravity_Filtered (s_ref05_CopyFilter p0) p2).2 == (s_ref05_HeightsErr p2)) = true) →
                (((t_gravity_Filtered (s_ref05_CopyFilter p0) p2).2 == (s_ref05_HeightsErr p2)) = ((t_gravity_Filtered (s_ref05_CopyFilter p0) p2).2 == (s_ref05_HeightsErr p2)))) ∧
                ((((t_gravity_Filtered (s_ref05_CopyFilter p0) p2).2 == (s_ref05_HeightsErr p2)) = ((t_gravity_Filtered (s_ref05_CopyFilter p0) p2).2 == (s_ref05_HeightsErr p2))) ∧
                (K (cond ((t_gravity_Filtered (s_ref05_CopyFilter p0) p2).2 == (s_ref05_HeightsErr p2)) ((((List.length (t_gravity_Filtered (s_ref05_CopyFilter p0) p2).1) : Nat) : Int) == (0 : Int)) false)))))) ∧
              ((((s_ref05_HeightsErr p2) != (0 : Int)) = false) →
              (((((t_gravity_Filtered (s_ref05_CopyFilter p0) p2).2 == (0 : Int)) = true) →
                (((t_gravity_Filtered (s_ref05_CopyFilter p0) p2).2 == (0 : Int)) = ((t_gravity_Filtered (s_ref05_CopyFilter p0) p2).2 == (0 : Int)))) ∧
                (((((t_gravity_Filtered (s_ref05_CopyFilter p0) p2).2 == (0 : Int)) = true) →
                (((t_gravity_Filtered (s_ref05_CopyFilter p0) p2).2 == (0 : Int)) = ((t_gravity_Filtered (s_ref05_CopyFilter p0) p2).2 == (0 : Int)))) ∧
                (((((t_gravity_Filtered (s_ref05_CopyFilter p0) p2).2 == (0 : Int)) = true) →
                (v_fok p0)) ∧
                (((((t_gravity_Filtered (s_ref05_CopyFilter p0) p2).2 == (0 : Int)) = true) →
                (v_hok p2)) ∧
                (((((t_gravity_Filtered (s_ref05_CopyFilter p0) p2).2 == (0 : Int)) = true) →
                (((t_gravity_Filtered (s_ref05_CopyFilter p0) p2).2 == (0 : Int)) = ((t_gravity_Filtered (s_ref05_CopyFilter p0) p2).2 == (0 : Int)))) ∧
                (((((t_gravity_Filtered (s_ref05_CopyFilter p0) p2).2 == (0 : Int)) = true) →
                (((t_gravity_Filtered (s_ref05_CopyFilter p0) p2).2 == (0 : Int)) = ((t_gravity_Filtered (s_ref05_CopyFilter p0) p2).2 == (0 : Int)))) ∧
                (((((t_gravity_Filtered (s_ref05_CopyFilter p0) p2).2 == (0 : Int)) = true) →
                (lenOk (t_gravity_Filtered (s_ref05_CopyFilter p0) p2).1)) ∧
                ((((t_gravity_Filtered (s_ref05_CopyFilter p0) p2).2 == (0 : Int)) = ((t_gravity_Filtered (s_ref05_CopyFilter p0) p2).2 == (0 : Int))) ∧
                (K (cond ((t_gravity_Filtered (s_ref05_CopyFilter p0) p2).2 == (0 : Int)) (decide ((t_gravity_Filtered (s_ref05_CopyFilter p0) p2).1 = (v_fil p0 p2))) false))))))))))))))))))))))))))))))))))))))))))))))))))))))))))))))))
set_option maxHeartbeats 4000000 in
theorem w_law05_GravityFilters_eq (p0 : (List Int)) (p1 : Int) (p2 : (List (Int × Int))) (K : Bool → Prop) : tfn F_law05_GravityFilters A_law05_GravityFilters C_law05_GravityFilters P_law05_GravityFilters R_law05_GravityFilters (p0, p1, p2) K = w_law05_GravityFilters p0 p1 p2 K := by kernel_rfl
def s_law05_GravityFilters (p0 : (List Int)) (p1 : Int) (p2 : (List (Int × Int))) : Bool :=
  (cond (cond (!(s_law05_light p0)) true (!(s_law05_few p2))) true
    (cond ((v_filerr (s_ref05_CopyFilter p0)) != (v_filerr p0)) false
    (cond ((v_filerr p0) != (0 : Int)) (cond (cond (cond (cond (cond ((s_gravity_SumOf (s_ref05_CopyFilter p0)).2 == (v_filerr p0)) ((t_gravity_GainAt (s_ref05_CopyFilter p0) p1).2 == (v_filerr p0)) false) ((t_gravity_Filtered (s_ref05_CopyFilter p0) p2).2 == (v_filerr p0)) false) ((s_gravity_SumOf (s_ref05_CopyFilter p0)).1 == (0 : Int)) false) ((t_gravity_GainAt (s_ref05_CopyFilter p0) p1).1 == (0 : Int)) false) ((((List.length (t_gravity_Filtered (s_ref05_CopyFilter p0) p2).1) : Nat) : Int) == (0 : Int)) false)
    (cond (cond ((s_gravity_SumOf (s_ref05_CopyFilter p0)).2 != (0 : Int)) true ((s_gravity_SumOf (s_ref05_CopyFilter p0)).1 != (v_fsum p0))) false
    (cond (cond (cond ((s_ref05_WithinErr p1 (3 : Int)) != (0 : Int)) (cond ((t_gravity_GainAt (s_ref05_CopyFilter p0) p1).2 != (s_ref05_WithinErr p1 (3 : Int))) true ((t_gravity_GainAt (s_ref05_CopyFilter p0) p1).1 != (0 : Int))) false) true (cond ((s_ref05_WithinErr p1 (3 : Int)) == (0 : Int)) (cond ((t_gravity_GainAt (s_ref05_CopyFilter p0) p1).2 != (0 : Int)) true ((t_gravity_GainAt (s_ref05_CopyFilter p0) p1).1 != (v_gain p0 p1))) false)) false
    (cond ((s_ref05_HeightsErr p2) != (0 : Int)) (cond ((t_gravity_Filtered (s_ref05_CopyFilter p0) p2).2 == (s_ref05_HeightsErr p2)) ((((List.length (t_gravity_Filtered (s_ref05_CopyFilter p0) p2).1) : Nat) : Int) == (0 : Int)) false)
    (cond ((t_gravity_Filtered (s_ref05_CopyFilter p0) p2).2 == (0 : Int)) (decide ((t_gravity_Filtered (s_ref05_CopyFilter p0) p2).1 = (v_fil p0 p2))) false)))))))
abbrev pre_law05_GravityFilters (p0 : (List Int)) (p1 : Int) (p2 : (List (Int × Int))) : List Prop := [(((cond (!(s_law05_light p0)) true (!(s_law05_few p2))) = false) → ((List.length p0) ≤ 1000000)),
    (((cond (!(s_law05_light p0)) true (!(s_law05_few p2))) = false) → (lenOk (s_ref05_CopyFilter p0))),
    (((cond (!(s_law05_light p0)) true (!(s_law05_few p2))) = false) → ((((v_filerr (s_ref05_CopyFilter p0)) != (0 : Int)) = false) → (v_fw (s_ref05_CopyFilter p0)))),
    (((cond (!(s_law05_light p0)) true (!(s_law05_few p2))) = false) → ((List.length p2) ≤ 1000000)),
    (((cond (!(s_law05_light p0)) true (!(s_law05_few p2))) = false) → ((((v_filerr (s_ref05_CopyFilter p0)) != (v_filerr p0)) = false) → ((((v_filerr p0) != (0 : Int)) = false) → ((((s_gravity_SumOf (s_ref05_CopyFilter p0)).2 != (0 : Int)) = false) → (v_fw p0))))),
    (((cond (!(s_law05_light p0)) true (!(s_law05_few p2))) = false) → ((((v_filerr (s_ref05_CopyFilter p0)) != (v_filerr p0)) = false) → ((((v_filerr p0) != (0 : Int)) = false) → (((cond ((s_gravity_SumOf (s_ref05_CopyFilter p0)).2 != (0 : Int)) true ((s_gravity_SumOf (s_ref05_CopyFilter p0)).1 != (v_fsum p0))) = false) → ((((s_ref05_WithinErr p1 (3 : Int)) != (0 : Int)) = true) → (((!((s_ref05_WithinErr p1 (3 : Int)) != (0 : Int))) || ((t_gravity_GainAt (s_ref05_CopyFilter p0) p1).2 != (s_ref05_WithinErr p1 (3 : Int)))) = ((t_gravity_GainAt (s_ref05_CopyFilter p0) p1).2 != (s_ref05_WithinErr p1 (3 : Int))))))))),
    (((cond (!(s_law05_light p0)) true (!(s_law05_few p2))) = false) → ((((v_filerr (s_ref05_CopyFilter p0)) != (v_filerr p0)) = false) → ((((v_filerr p0) != (0 : Int)) = false) → (((cond ((s_gravity_SumOf (s_ref05_CopyFilter p0)).2 != (0 : Int)) true ((s_gravity_SumOf (s_ref05_CopyFilter p0)).1 != (v_fsum p0))) = false) → ((((!((!(cond ((s_ref05_WithinErr p1 (3 : Int)) != (0 : Int)) (cond ((t_gravity_GainAt (s_ref05_CopyFilter p0) p1).2 != (s_ref05_WithinErr p1 (3 : Int))) true ((t_gravity_GainAt (s_ref05_CopyFilter p0) p1).1 != (0 : Int))) false)) && ((s_ref05_WithinErr p1 (3 : Int)) == (0 : Int)))) || ((t_gravity_GainAt (s_ref05_CopyFilter p0) p1).2 != (0 : Int))) = false) → (v_fw p0)))))),
    (((cond (!(s_law05_light p0)) true (!(s_law05_few p2))) = false) → ((((v_filerr (s_ref05_CopyFilter p0)) != (v_filerr p0)) = false) → ((((v_filerr p0) != (0 : Int)) = false) → (((cond ((s_gravity_SumOf (s_ref05_CopyFilter p0)).2 != (0 : Int)) true ((s_gravity_SumOf (s_ref05_CopyFilter p0)).1 != (v_fsum p0))) = false) → ((((!((!(cond ((s_ref05_WithinErr p1 (3 : Int)) != (0 : Int)) (cond ((t_gravity_GainAt (s_ref05_CopyFilter p0) p1).2 != (s_ref05_WithinErr p1 (3 : Int))) true ((t_gravity_GainAt (s_ref05_CopyFilter p0) p1).1 != (0 : Int))) false)) && ((s_ref05_WithinErr p1 (3 : Int)) == (0 : Int)))) || ((t_gravity_GainAt (s_ref05_CopyFilter p0) p1).2 != (0 : Int))) = false) → (((0 : Int) ≤ p1) ∧ (p1 ≤ (3 : Int)))))))),
    (((cond (!(s_law05_light p0)) true (!(s_law05_few p2))) = false) → ((((v_filerr (s_ref05_CopyFilter p0)) != (v_filerr p0)) = false) → ((((v_filerr p0) != (0 : Int)) = false) → (((cond ((s_gravity_SumOf (s_ref05_CopyFilter p0)).2 != (0 : Int)) true ((s_gravity_SumOf (s_ref05_CopyFilter p0)).1 != (v_fsum p0))) = false) → ((((!(cond ((s_ref05_WithinErr p1 (3 : Int)) != (0 : Int)) (cond ((t_gravity_GainAt (s_ref05_CopyFilter p0) p1).2 != (s_ref05_WithinErr p1 (3 : Int))) true ((t_gravity_GainAt (s_ref05_CopyFilter p0) p1).1 != (0 : Int))) false)) && ((s_ref05_WithinErr p1 (3 : Int)) == (0 : Int))) = true) → (((!((!(cond ((s_ref05_WithinErr p1 (3 : Int)) != (0 : Int)) (cond ((t_gravity_GainAt (s_ref05_CopyFilter p0) p1).2 != (s_ref05_WithinErr p1 (3 : Int))) true ((t_gravity_GainAt (s_ref05_CopyFilter p0) p1).1 != (0 : Int))) false)) && ((s_ref05_WithinErr p1 (3 : Int)) == (0 : Int)))) || ((t_gravity_GainAt (s_ref05_CopyFilter p0) p1).2 != (0 : Int))) = ((t_gravity_GainAt (s_ref05_CopyFilter p0) p1).2 != (0 : Int)))))))),
    (((cond (!(s_law05_light p0)) true (!(s_law05_few p2))) = false) → ((((v_filerr (s_ref05_CopyFilter p0)) != (v_filerr p0)) = false) → ((((v_filerr p0) != (0 : Int)) = false) → (((cond ((s_gravity_SumOf (s_ref05_CopyFilter p0)).2 != (0 : Int)) true ((s_gravity_SumOf (s_ref05_CopyFilter p0)).1 != (v_fsum p0))) = false) → (((cond ((s_ref05_WithinErr p1 (3 : Int)) != (0 : Int)) (cond ((t_gravity_GainAt (s_ref05_CopyFilter p0) p1).2 != (s_ref05_WithinErr p1 (3 : Int))) true ((t_gravity_GainAt (s_ref05_CopyFilter p0) p1).1 != (0 : Int))) false) = false) → (((!(cond ((s_ref05_WithinErr p1 (3 : Int)) != (0 : Int)) (cond ((t_gravity_GainAt (s_ref05_CopyFilter p0) p1).2 != (s_ref05_WithinErr p1 (3 : Int))) true ((t_gravity_GainAt (s_ref05_CopyFilter p0) p1).1 != (0 : Int))) false)) && ((s_ref05_WithinErr p1 (3 : Int)) == (0 : Int))) = ((s_ref05_WithinErr p1 (3 : Int)) == (0 : Int)))))))),
    (((cond (!(s_law05_light p0)) true (!(s_law05_few p2))) = false) → ((((v_filerr (s_ref05_CopyFilter p0)) != (v_filerr p0)) = false) → ((((v_filerr p0) != (0 : Int)) = false) → (((cond ((s_gravity_SumOf (s_ref05_CopyFilter p0)).2 != (0 : Int)) true ((s_gravity_SumOf (s_ref05_CopyFilter p0)).1 != (v_fsum p0))) = false) → (((cond (cond ((s_ref05_WithinErr p1 (3 : Int)) != (0 : Int)) (cond ((t_gravity_GainAt (s_ref05_CopyFilter p0) p1).2 != (s_ref05_WithinErr p1 (3 : Int))) true ((t_gravity_GainAt (s_ref05_CopyFilter p0) p1).1 != (0 : Int))) false) true (cond ((s_ref05_WithinErr p1 (3 : Int)) == (0 : Int)) (cond ((t_gravity_GainAt (s_ref05_CopyFilter p0) p1).2 != (0 : Int)) true ((t_gravity_GainAt (s_ref05_CopyFilter p0) p1).1 != (v_gain p0 p1))) false)) = false) → ((((s_ref05_HeightsErr p2) != (0 : Int)) = false) → ((((t_gravity_Filtered (s_ref05_CopyFilter p0) p2).2 == (0 : Int)) = true) → (v_fok p0)))))))),
    (((cond (!(s_law05_light p0)) true (!(s_law05_few p2))) = false) → ((((v_filerr (s_ref05_CopyFilter p0)) != (v_filerr p0)) = false) → ((((v_filerr p0) != (0 : Int)) = false) → (((cond ((s_gravity_SumOf (s_ref05_CopyFilter p0)).2 != (0 : Int)) true ((s_gravity_SumOf (s_ref05_CopyFilter p0)).1 != (v_fsum p0))) = false) → (((cond (cond ((s_ref05_WithinErr p1 (3 : Int)) != (0 : Int)) (cond ((t_gravity_GainAt (s_ref05_CopyFilter p0) p1).2 != (s_ref05_WithinErr p1 (3 : Int))) true ((t_gravity_GainAt (s_ref05_CopyFilter p0) p1).1 != (0 : Int))) false) true (cond ((s_ref05_WithinErr p1 (3 : Int)) == (0 : Int)) (cond ((t_gravity_GainAt (s_ref05_CopyFilter p0) p1).2 != (0 : Int)) true ((t_gravity_GainAt (s_ref05_CopyFilter p0) p1).1 != (v_gain p0 p1))) false)) = false) → ((((s_ref05_HeightsErr p2) != (0 : Int)) = false) → ((((t_gravity_Filtered (s_ref05_CopyFilter p0) p2).2 == (0 : Int)) = true) → (v_hok p2)))))))),
    (((cond (!(s_law05_light p0)) true (!(s_law05_few p2))) = false) → ((((v_filerr (s_ref05_CopyFilter p0)) != (v_filerr p0)) = false) → ((((v_filerr p0) != (0 : Int)) = false) → (((cond ((s_gravity_SumOf (s_ref05_CopyFilter p0)).2 != (0 : Int)) true ((s_gravity_SumOf (s_ref05_CopyFilter p0)).1 != (v_fsum p0))) = false) → (((cond (cond ((s_ref05_WithinErr p1 (3 : Int)) != (0 : Int)) (cond ((t_gravity_GainAt (s_ref05_CopyFilter p0) p1).2 != (s_ref05_WithinErr p1 (3 : Int))) true ((t_gravity_GainAt (s_ref05_CopyFilter p0) p1).1 != (0 : Int))) false) true (cond ((s_ref05_WithinErr p1 (3 : Int)) == (0 : Int)) (cond ((t_gravity_GainAt (s_ref05_CopyFilter p0) p1).2 != (0 : Int)) true ((t_gravity_GainAt (s_ref05_CopyFilter p0) p1).1 != (v_gain p0 p1))) false)) = false) → ((((s_ref05_HeightsErr p2) != (0 : Int)) = false) → ((((t_gravity_Filtered (s_ref05_CopyFilter p0) p2).2 == (0 : Int)) = true) → (lenOk (t_gravity_Filtered (s_ref05_CopyFilter p0) p2).1))))))))]
set_option maxHeartbeats 4000000 in
theorem d_law05_GravityFilters (p0 : (List Int)) (p1 : Int) (p2 : (List (Int × Int))) (K : Bool → Prop) (hp : ∀ p ∈ pre_law05_GravityFilters p0 p1 p2, p) (h : K (s_law05_GravityFilters p0 p1 p2)) : w_law05_GravityFilters p0 p1 p2 K := by
  unfold w_law05_GravityFilters
  unfold s_law05_GravityFilters at h
  obtain ⟨hp0, hp1, hp2, hp3, hp4, hp5, hp6, hp7, hp8, hp9, hp10, hp11, hp12, _⟩ := conj_of hp
  exact ⟨fun e => Bool.noConfusion (show false = true from e), fun _ => ⟨(fun _ => rfl), ⟨(fun _ => rfl), ⟨rfl, (br' h (fun e0 h => h)
    (fun e0 h => ⟨(hp0 e0), ⟨(hp1 e0), ⟨(hp2 e0), ⟨(hp0 e0), ⟨(hp1 e0), ⟨(hp0 e0), ⟨(hp3 e0), ⟨(hp1 e0), ⟨(hp0 e0), ⟨(hp1 e0), (br' h (fun e1 h => h)
    (fun e1 h => (br' h (fun e2 h => ⟨(fun _ => rfl), ⟨(fun _ => rfl), ⟨rfl, ⟨(fun _ => rfl), ⟨(fun _ => rfl), ⟨rfl, ⟨(fun _ => rfl), ⟨rfl, ⟨(fun _ => rfl), ⟨rfl, ⟨(fun _ => rfl), ⟨(fun _ => rfl), ⟨rfl, h⟩⟩⟩⟩⟩⟩⟩⟩⟩⟩⟩⟩⟩)
    (fun e2 h => ⟨(fun _ => rfl), ⟨(hp4 e0 e1 e2), ⟨(fun _ => rfl), ⟨(fun _ => rfl), ⟨rfl, (br' h (fun e3 h => h)
    (fun e3 h => ⟨(fun _ => rfl), ⟨(fun _ => rfl), ⟨(fun _ => rfl), ⟨(fun _ => rfl), ⟨(fun _ => rfl), ⟨(hp5 e0 e1 e2 e3), ⟨rfl, ⟨(fun _ => rfl), ⟨(fun _ => rfl), ⟨(fun _ => rfl), ⟨(fun _ => rfl), ⟨(fun _ => rfl), ⟨(fun _ => rfl), ⟨(hp6 e0 e1 e2 e3), ⟨(hp7 e0 e1 e2 e3), ⟨(fun _ => rfl), ⟨(fun _ => rfl), ⟨(fun _ => rfl), ⟨(hp8 e0 e1 e2 e3), ⟨(fun _ => rfl), ⟨(hp9 e0 e1 e2 e3), ⟨rfl, (br' h (fun e4 h => h)
    (fun e4 h => (br' h (fun e5 h => ⟨(fun _ => rfl), ⟨(fun _ => rfl), ⟨rfl, h⟩⟩⟩)
    (fun e5 h => ⟨(fun _ => rfl), ⟨(fun _ => rfl), ⟨(hp10 e0 e1 e2 e3 e4 e5), ⟨(hp11 e0 e1 e2 e3 e4 e5), ⟨(fun _ => rfl), ⟨(fun _ => rfl), ⟨(hp12 e0 e1 e2 e3 e4 e5), ⟨rfl, h⟩⟩⟩⟩⟩⟩⟩⟩))))⟩⟩⟩⟩⟩⟩⟩⟩⟩⟩⟩⟩⟩⟩⟩⟩⟩⟩⟩⟩⟩⟩))⟩⟩⟩⟩⟩))))⟩⟩⟩⟩⟩⟩⟩⟩⟩⟩))⟩⟩⟩⟩
abbrev con_law05_GravityFilters : Con := ⟨P_law05_GravityFilters, R_law05_GravityFilters, fun x => pre_law05_GravityFilters x.1 x.2.1 x.2.2, fun x => s_law05_GravityFilters x.1 x.2.1 x.2.2⟩
theorem ok_law05_GravityFilters : ConOk Tryd.prog 11 con_law05_GravityFilters := ⟨k_law05_GravityFilters, fun x hx => ret_tf (ps := P_law05_GravityFilters) (rs := R_law05_GravityFilters) (x := x) (y := s_law05_GravityFilters x.1 x.2.1 x.2.2) e_law05_GravityFilters hC_law05_GravityFilters (tf_of (w_law05_GravityFilters_eq x.1 x.2.1 x.2.2 (fun z => z = s_law05_GravityFilters x.1 x.2.1 x.2.2)) (d_law05_GravityFilters x.1 x.2.1 x.2.2 (fun z => z = s_law05_GravityFilters x.1 x.2.1 x.2.2) hx rfl))⟩
end Go.Proofs.YtcecdmdnfmgnfaaDoor
