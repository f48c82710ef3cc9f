/- What the functions that CountsStripped reaches compute: contracts, each function once. No condition. -/
import Derived.Test.YtonjnpefnbnohaaWalkCountsStrippedB
import Derived.KernelRfl
namespace Go.Proofs.Ytonjnpefnbnohaa
open Go Go.Mx
set_option maxRecDepth 100000
/- ref06_RawErr -/
def C_ref06_RawErr : Cons := [(40, [], con_base_Within)]
theorem hC_ref06_RawErr : ConsOk Try.prog C_ref06_RawErr := ConsOk.cons ok_base_Within <| ConsOk.nil
def w_ref06_RawErr (p0 : (Int × (Int × Int))) (K : Int → Prop) : Prop :=
  (∃ n0, (loopP (fun (y1 : Int) k2 =>
    ((((decide (y1 < (3 : Int))) = true) →
    (((0 : Int) ≤ y1) ∧
      ((y1 < (3 : Int)) ∧
      ((((!(s_base_Within (List.getD (p0.1 :: (p0.2.1 :: (p0.2.2 :: ([] : List Int)))) (Int.toNat y1) (0 : Int)) (0 : Int) (100000 : Int))) = true) →
      (K (2 : Int))) ∧
      (((!(s_base_Within (List.getD (p0.1 :: (p0.2.1 :: (p0.2.2 :: ([] : List Int)))) (Int.toNat y1) (0 : Int)) (0 : Int) (100000 : Int))) = false) →
      (k2 (Go.IntKind.wrap .i64 (y1 + (1 : Int))))))))) ∧
    (((decide (y1 < (3 : Int))) = false) →
    (K (0 : Int))))) n0 (0 : Int)))
set_option maxHeartbeats 4000000 in
theorem w_ref06_RawErr_eq (p0 : (Int × (Int × Int))) (K : Int → Prop) : tfn F_ref06_RawErr A_ref06_RawErr C_ref06_RawErr P_ref06_RawErr R_ref06_RawErr p0 K = w_ref06_RawErr p0 K := by kernel_rfl
def s_ref06_RawErr (p0 : (Int × (Int × Int))) : Int :=
  (cond (!(s_base_Within p0.1 (0 : Int) (100000 : Int))) (2 : Int)
    (cond (!(s_base_Within p0.2.1 (0 : Int) (100000 : Int))) (2 : Int)
    (cond (!(s_base_Within p0.2.2 (0 : Int) (100000 : Int))) (2 : Int)
    (0 : Int))))
abbrev pre_ref06_RawErr (p0 : (Int × (Int × Int))) : List Prop := []
set_option maxHeartbeats 4000000 in
theorem d_ref06_RawErr (p0 : (Int × (Int × Int))) (K : Int → Prop) (hp : ∀ p ∈ pre_ref06_RawErr p0, p) (h : K (s_ref06_RawErr p0)) : w_ref06_RawErr p0 K := by
  unfold w_ref06_RawErr
  unfold s_ref06_RawErr at h
  exact ⟨31, fun _ => ⟨(od rfl), (od rfl), (br' h (fun e0 h => h)
    (fun e0 h => ⟨fun _ => ⟨(od rfl), (od rfl), (br' h (fun e1 h => h)
    (fun e1 h => ⟨fun _ => ⟨(od rfl), (od rfl), (br' h (fun e2 h => h)
    (fun e2 h => ⟨nof, fun _ => h⟩))⟩, fun e => Bool.noConfusion (show true = false from e)⟩))⟩, fun e => Bool.noConfusion (show true = false from e)⟩))⟩, fun e => Bool.noConfusion (show true = false from e)⟩
abbrev t_ref06_RawErr (p0 : Int × Int × Int) : Int := v_rawErr p0
abbrev qre_ref06_RawErr (_ : Int × Int × Int) : List Prop := []
theorem pp_ref06_RawErr (p0 : Int × Int × Int) (_ : ∀ p ∈ qre_ref06_RawErr p0, p) : ∀ p ∈ pre_ref06_RawErr p0, p := by
  intro p hp
  simp only [pre_ref06_RawErr, List.not_mem_nil] at hp
theorem tt_ref06_RawErr (p0 : Int × Int × Int) (_ : ∀ p ∈ qre_ref06_RawErr p0, p) : s_ref06_RawErr p0 = t_ref06_RawErr p0 := by
  obtain ⟨a, b, c⟩ := p0
  unfold s_ref06_RawErr t_ref06_RawErr v_rawErr
  rw [tx_allneg, tx_eqw, tx_eqw, tx_eqw]
  cases s_counts_within a 0 100000 <;> cases s_counts_within b 0 100000 <;> cases s_counts_within c 0 100000 <;> rfl

abbrev con_ref06_RawErr : Con := ⟨P_ref06_RawErr, R_ref06_RawErr, fun x => qre_ref06_RawErr x, fun x => t_ref06_RawErr x⟩
theorem ok_ref06_RawErr : ConOk Try.prog 68 con_ref06_RawErr := ⟨k_ref06_RawErr, fun x hx => ret_tf (ps := P_ref06_RawErr) (rs := R_ref06_RawErr) (x := x) (y := t_ref06_RawErr x) e_ref06_RawErr hC_ref06_RawErr (tf_of (w_ref06_RawErr_eq x (fun z => z = t_ref06_RawErr x)) (d_ref06_RawErr x (fun z => z = t_ref06_RawErr x) (pp_ref06_RawErr x hx) (tt_ref06_RawErr x hx)))⟩
/- base_Floor -/
def C_base_Floor : Cons := []
theorem hC_base_Floor : ConsOk Try.prog C_base_Floor := ConsOk.nil
def w_base_Floor (p0 : Int) (p1 : Int) (K : Int → Prop) : Prop :=
  ((p1 ≠ (0 : Int)) ∧
  ((p1 ≠ (0 : Int)) ∧
  ((((decide ((Int.tmod p0 p1) < (0 : Int))) = true) →
  (K (Go.IntKind.wrap .i64 ((Go.IntKind.wrap .i64 (Int.tdiv p0 p1)) - (1 : Int))))) ∧
  (((decide ((Int.tmod p0 p1) < (0 : Int))) = false) →
  (K (Go.IntKind.wrap .i64 (Int.tdiv p0 p1)))))))
set_option maxHeartbeats 4000000 in
theorem w_base_Floor_eq (p0 : Int) (p1 : Int) (K : Int → Prop) : tfn F_base_Floor A_base_Floor C_base_Floor P_base_Floor R_base_Floor (p0, p1) K = w_base_Floor p0 p1 K := by kernel_rfl
def s_base_Floor (p0 : Int) (p1 : Int) : Int :=
  (cond (decide ((Int.tmod p0 p1) < (0 : Int))) (Go.IntKind.wrap .i64 ((Go.IntKind.wrap .i64 (Int.tdiv p0 p1)) - (1 : Int)))
    (Go.IntKind.wrap .i64 (Int.tdiv p0 p1)))
abbrev pre_base_Floor (p0 : Int) (p1 : Int) : List Prop := [(p1 ≠ (0 : Int))]
set_option maxHeartbeats 4000000 in
theorem d_base_Floor (p0 : Int) (p1 : Int) (K : Int → Prop) (hp : ∀ p ∈ pre_base_Floor p0 p1, p) (h : K (s_base_Floor p0 p1)) : w_base_Floor p0 p1 K := by
  unfold w_base_Floor
  unfold s_base_Floor at h
  obtain ⟨hp0, _⟩ := conj_of hp
  exact ⟨(hp0), (hp0), (br' h (fun e0 h => h)
    (fun e0 h => h))⟩
abbrev t_base_Floor (p0 : Int) (p1 : Int) : Int := s_counts_floor p0 p1
abbrev qre_base_Floor (_ : Int) (p1 : Int) : List Prop := [p1 ≠ 0]
theorem pp_base_Floor (p0 : Int) (p1 : Int) (hq : ∀ p ∈ qre_base_Floor p0 p1, p) : ∀ p ∈ pre_base_Floor p0 p1, p := by
  have hv := conj_of hq
  intro p hp
  simp only [pre_base_Floor, List.mem_cons, List.not_mem_nil, or_false] at hp
  subst hp
  all_goals first | exact hv.1 | (intros; exact hv.1)

theorem tt_base_Floor (p0 : Int) (p1 : Int) (hq : ∀ p ∈ qre_base_Floor p0 p1, p) : s_base_Floor p0 p1 = t_base_Floor p0 p1 := by
  have hv := conj_of hq
  rfl

abbrev con_base_Floor : Con := ⟨P_base_Floor, R_base_Floor, fun x => qre_base_Floor x.1 x.2, fun x => t_base_Floor x.1 x.2⟩
theorem ok_base_Floor : ConOk Try.prog 46 con_base_Floor := ⟨k_base_Floor, fun x hx => ret_tf (ps := P_base_Floor) (rs := R_base_Floor) (x := x) (y := t_base_Floor x.1 x.2) e_base_Floor hC_base_Floor (tf_of (w_base_Floor_eq x.1 x.2 (fun z => z = t_base_Floor x.1 x.2)) (d_base_Floor x.1 x.2 (fun z => z = t_base_Floor x.1 x.2) (pp_base_Floor x.1 x.2 hx) (tt_base_Floor x.1 x.2 hx)))⟩
/- base_Ceil -/
def C_base_Ceil : Cons := [(46, [], con_base_Floor)]
theorem hC_base_Ceil : ConsOk Try.prog C_base_Ceil := ConsOk.cons ok_base_Floor <| ConsOk.nil
def w_base_Ceil (p0 : Int) (p1 : Int) (K : Int → Prop) : Prop :=
  ((p1 ≠ (0 : Int)) ∧
  (K (Go.IntKind.wrap .i64 ((0 : Int) - (s_counts_floor (Go.IntKind.wrap .i64 ((0 : Int) - p0)) p1)))))
set_option maxHeartbeats 4000000 in
theorem w_base_Ceil_eq (p0 : Int) (p1 : Int) (K : Int → Prop) : tfn F_base_Ceil A_base_Ceil C_base_Ceil P_base_Ceil R_base_Ceil (p0, p1) K = w_base_Ceil p0 p1 K := by kernel_rfl
def s_base_Ceil (p0 : Int) (p1 : Int) : Int :=
  (Go.IntKind.wrap .i64 ((0 : Int) - (s_counts_floor (Go.IntKind.wrap .i64 ((0 : Int) - p0)) p1)))
abbrev pre_base_Ceil (p0 : Int) (p1 : Int) : List Prop := [(p1 ≠ (0 : Int))]
set_option maxHeartbeats 4000000 in
theorem d_base_Ceil (p0 : Int) (p1 : Int) (K : Int → Prop) (hp : ∀ p ∈ pre_base_Ceil p0 p1, p) (h : K (s_base_Ceil p0 p1)) : w_base_Ceil p0 p1 K := by
  unfold w_base_Ceil
  unfold s_base_Ceil at h
  obtain ⟨hp0, _⟩ := conj_of hp
  exact ⟨(hp0), h⟩
abbrev t_base_Ceil (p0 : Int) (p1 : Int) : Int := s_counts_ceil p0 p1
abbrev qre_base_Ceil (_ : Int) (p1 : Int) : List Prop := [p1 ≠ 0]
theorem pp_base_Ceil (p0 : Int) (p1 : Int) (hq : ∀ p ∈ qre_base_Ceil p0 p1, p) : ∀ p ∈ pre_base_Ceil p0 p1, p := by
  have hv := conj_of hq
  intro p hp
  simp only [pre_base_Ceil, List.mem_cons, List.not_mem_nil, or_false] at hp
  subst hp
  all_goals first | exact hv.1 | (intros; exact hv.1)

theorem tt_base_Ceil (p0 : Int) (p1 : Int) (hq : ∀ p ∈ qre_base_Ceil p0 p1, p) : s_base_Ceil p0 p1 = t_base_Ceil p0 p1 := by
  have hv := conj_of hq
  rfl

abbrev con_base_Ceil : Con := ⟨P_base_Ceil, R_base_Ceil, fun x => qre_base_Ceil x.1 x.2, fun x => t_base_Ceil x.1 x.2⟩
theorem ok_base_Ceil : ConOk Try.prog 47 con_base_Ceil := ⟨k_base_Ceil, fun x hx => ret_tf (ps := P_base_Ceil) (rs := R_base_Ceil) (x := x) (y := t_base_Ceil x.1 x.2) e_base_Ceil hC_base_Ceil (tf_of (w_base_Ceil_eq x.1 x.2 (fun z => z = t_base_Ceil x.1 x.2)) (d_base_Ceil x.1 x.2 (fun z => z = t_base_Ceil x.1 x.2) (pp_base_Ceil x.1 x.2 hx) (tt_base_Ceil x.1 x.2 hx)))⟩
/- ref06_Errors -/
def C_ref06_Errors : Cons := [(67, [], con_ref06_Inverse), (114, [], con_base_Size), (47, [], con_base_Ceil)]
theorem hC_ref06_Errors : ConsOk Try.prog C_ref06_Errors := ConsOk.cons ok_ref06_Inverse <| ConsOk.cons ok_base_Size <| ConsOk.cons ok_base_Ceil <| ConsOk.nil
abbrev q0_ref06_Errors (p0 : CR) := ((v_inv p0).1.1.2.1 :: ((v_inv p0).1.2.1.2.1 :: ((v_inv p0).1.2.2.2.1 :: ([] : List Int))))
abbrev q1_ref06_Errors (p0 : CR) := ((v_inv p0).1.1.2.2 :: ((v_inv p0).1.2.1.2.2 :: ((v_inv p0).1.2.2.2.2 :: ([] : List Int))))
abbrev q2_ref06_Errors (p0 : CR) := ((v_inv p0).1.1.1 :: ((v_inv p0).1.2.1.1 :: ((v_inv p0).1.2.2.1 :: ([] : List Int))))
def w_ref06_Errors (p0 : CR) (p1 : (Int × (Int × Int))) (K : (Int × (Int × Int)) → Prop) : Prop :=
  ((v_rules p0) ∧
  (∃ n0, (loopP (fun (y1 : (Int × (Int × (Int × Int)))) k2 =>
    ((((decide (y1.1 < (3 : Int))) = true) →
    (∃ n3, (loopP (fun (y4 : (Int × (Int × (Int × Int)))) k5 =>
        ((((decide (y4.1 < (3 : Int))) = true) →
        (((0 : Int) ≤ y1.1) ∧
          ((y1.1 < (3 : Int)) ∧
          (((0 : Int) ≤ y4.1) ∧
          ((y4.1 < (3 : Int)) ∧
          (((v_inv p0).2 ≠ (0 : Int)) ∧
          (((0 : Int) ≤ y1.1) ∧
          ((y1.1 < (3 : Int)) ∧
          (((0 : Int) ≤ y4.1) ∧
          ((y4.1 < (3 : Int)) ∧
          (((0 : Int) ≤ y1.1) ∧
          ((y1.1 < (3 : Int)) ∧
          (k5 ((Go.IntKind.wrap .i64 (y4.1 + (1 : Int))), ((cond (decide (y1.1 = (0 : Int))) (Go.IntKind.wrap .i64 ((List.getD (y4.2.1 :: (y4.2.2.1 :: (y4.2.2.2 :: ([] : List Int)))) (Int.toNat y1.1) (0 : Int)) + (Go.IntKind.wrap .i64 ((Go.IntKind.wrap .i64 ((s_counts_ceil (Go.IntKind.wrap .i64 ((1000 : Int) * (s_base_Size (List.getD ((List.getD (q2_ref06_Errors p0) (Int.toNat y1.1) (0 : Int)) :: ((List.getD (q0_ref06_Errors p0) (Int.toNat y1.1) (0 : Int)) :: ((List.getD (q1_ref06_Errors p0) (Int.toNat y1.1) (0 : Int)) :: ([] : List Int)))) (Int.toNat y4.1) (0 : Int))))) (v_inv p0).2) * (s_counts_ceil (Go.IntKind.wrap .i64 ((1000 : Int) * (s_base_Size (List.getD ((List.getD (q2_ref06_Errors p0) (Int.toNat y1.1) (0 : Int)) :: ((List.getD (q0_ref06_Errors p0) (Int.toNat y1.1) (0 : Int)) :: ((List.getD (q1_ref06_Errors p0) (Int.toNat y1.1) (0 : Int)) :: ([] : List Int)))) (Int.toNat y4.1) (0 : Int))))) (v_inv p0).2))) * (List.getD (p1.1 :: (p1.2.1 :: (p1.2.2 :: ([] : List Int)))) (Int.toNat y4.1) (0 : Int)))))) y4.2.1), ((cond (decide (y1.1 = (1 : Int))) (Go.IntKind.wrap .i64 ((List.getD (y4.2.1 :: (y4.2.2.1 :: (y4.2.2.2 :: ([] : List Int)))) (Int.toNat y1.1) (0 : Int)) + (Go.IntKind.wrap .i64 ((Go.IntKind.wrap .i64 ((s_counts_ceil (Go.IntKind.wrap .i64 ((1000 : Int) * (s_base_Size (List.getD ((List.getD (q2_ref06_Errors p0) (Int.toNat y1.1) (0 : Int)) :: ((List.getD (q0_ref06_Errors p0) (Int.toNat y1.1) (0 : Int)) :: ((List.getD (q1_ref06_Errors p0) (Int.toNat y1.1) (0 : Int)) :: ([] : List Int)))) (Int.toNat y4.1) (0 : Int))))) (v_inv p0).2) * (s_counts_ceil (Go.IntKind.wrap .i64 ((1000 : Int) * (s_base_Size (List.getD ((List.getD (q2_ref06_Errors p0) (Int.toNat y1.1) (0 : Int)) :: ((List.getD (q0_ref06_Errors p0) (Int.toNat y1.1) (0 : Int)) :: ((List.getD (q1_ref06_Errors p0) (Int.toNat y1.1) (0 : Int)) :: ([] : List Int)))) (Int.toNat y4.1) (0 : Int))))) (v_inv p0).2))) * (List.getD (p1.1 :: (p1.2.1 :: (p1.2.2 :: ([] : List Int)))) (Int.toNat y4.1) (0 : Int)))))) y4.2.2.1), (cond (decide (y1.1 = (2 : Int))) (Go.IntKind.wrap .i64 ((List.getD (y4.2.1 :: (y4.2.2.1 :: (y4.2.2.2 :: ([] : List Int)))) (Int.toNat y1.1) (0 : Int)) + (Go.IntKind.wrap .i64 ((Go.IntKind.wrap .i64 ((s_counts_ceil (Go.IntKind.wrap .i64 ((1000 : Int) * (s_base_Size (List.getD ((List.getD (q2_ref06_Errors p0) (Int.toNat y1.1) (0 : Int)) :: ((List.getD (q0_ref06_Errors p0) (Int.toNat y1.1) (0 : Int)) :: ((List.getD (q1_ref06_Errors p0) (Int.toNat y1.1) (0 : Int)) :: ([] : List Int)))) (Int.toNat y4.1) (0 : Int))))) (v_inv p0).2) * (s_counts_ceil (Go.IntKind.wrap .i64 ((1000 : Int) * (s_base_Size (List.getD ((List.getD (q2_ref06_Errors p0) (Int.toNat y1.1) (0 : Int)) :: ((List.getD (q0_ref06_Errors p0) (Int.toNat y1.1) (0 : Int)) :: ((List.getD (q1_ref06_Errors p0) (Int.toNat y1.1) (0 : Int)) :: ([] : List Int)))) (Int.toNat y4.1) (0 : Int))))) (v_inv p0).2))) * (List.getD (p1.1 :: (p1.2.1 :: (p1.2.2 :: ([] : List Int)))) (Int.toNat y4.1) (0 : Int)))))) y4.2.2.2))))))))))))))))) ∧
        (((decide (y4.1 < (3 : Int))) = false) →
        (k2 ((Go.IntKind.wrap .i64 (y1.1 + (1 : Int))), y4.2))))) n3 ((0 : Int), y1.2)))) ∧
    (((decide (y1.1 < (3 : Int))) = false) →
    (K y1.2)))) n0 ((0 : Int), ((0 : Int), ((0 : Int), (0 : Int)))))))
set_option maxHeartbeats 4000000 in
theorem w_ref06_Errors_eq (p0 : CR) (p1 : (Int × (Int × Int))) (K : (Int × (Int × Int)) → Prop) : tfn F_ref06_Errors A_ref06_Errors C_ref06_Errors P_ref06_Errors R_ref06_Errors (p0, p1) K = w_ref06_Errors p0 p1 K := by kernel_rfl
def s_ref06_Errors (p0 : CR) (p1 : (Int × (Int × Int))) : (Int × (Int × Int)) :=
  ((Go.IntKind.wrap .i64 ((Go.IntKind.wrap .i64 ((Go.IntKind.wrap .i64 ((0 : Int) + (Go.IntKind.wrap .i64 ((Go.IntKind.wrap .i64 ((s_counts_ceil (Go.IntKind.wrap .i64 ((1000 : Int) * (s_base_Size (v_inv p0).1.1.1))) (v_inv p0).2) * (s_counts_ceil (Go.IntKind.wrap .i64 ((1000 : Int) * (s_base_Size (v_inv p0).1.1.1))) (v_inv p0).2))) * p1.1)))) + (Go.IntKind.wrap .i64 ((Go.IntKind.wrap .i64 ((s_counts_ceil (Go.IntKind.wrap .i64 ((1000 : Int) * (s_base_Size (v_inv p0).1.1.2.1))) (v_inv p0).2) * (s_counts_ceil (Go.IntKind.wrap .i64 ((1000 : Int) * (s_base_Size (v_inv p0).1.1.2.1))) (v_inv p0).2))) * p1.2.1)))) + (Go.IntKind.wrap .i64 ((Go.IntKind.wrap .i64 ((s_counts_ceil (Go.IntKind.wrap .i64 ((1000 : Int) * (s_base_Size (v_inv p0).1.1.2.2))) (v_inv p0).2) * (s_counts_ceil (Go.IntKind.wrap .i64 ((1000 : Int) * (s_base_Size (v_inv p0).1.1.2.2))) (v_inv p0).2))) * p1.2.2)))), ((Go.IntKind.wrap .i64 ((Go.IntKind.wrap .i64 ((Go.IntKind.wrap .i64 ((0 : Int) + (Go.IntKind.wrap .i64 ((Go.IntKind.wrap .i64 ((s_counts_ceil (Go.IntKind.wrap .i64 ((1000 : Int) * (s_base_Size (v_inv p0).1.2.1.1))) (v_inv p0).2) * (s_counts_ceil (Go.IntKind.wrap .i64 ((1000 : Int) * (s_base_Size (v_inv p0).1.2.1.1))) (v_inv p0).2))) * p1.1)))) + (Go.IntKind.wrap .i64 ((Go.IntKind.wrap .i64 ((s_counts_ceil (Go.IntKind.wrap .i64 ((1000 : Int) * (s_base_Size (v_inv p0).1.2.1.2.1))) (v_inv p0).2) * (s_counts_ceil (Go.IntKind.wrap .i64 ((1000 : Int) * (s_base_Size (v_inv p0).1.2.1.2.1))) (v_inv p0).2))) * p1.2.1)))) + (Go.IntKind.wrap .i64 ((Go.IntKind.wrap .i64 ((s_counts_ceil (Go.IntKind.wrap .i64 ((1000 : Int) * (s_base_Size (v_inv p0).1.2.1.2.2))) (v_inv p0).2) * (s_counts_ceil (Go.IntKind.wrap .i64 ((1000 : Int) * (s_base_Size (v_inv p0).1.2.1.2.2))) (v_inv p0).2))) * p1.2.2)))), (Go.IntKind.wrap .i64 ((Go.IntKind.wrap .i64 ((Go.IntKind.wrap .i64 ((0 : Int) + (Go.IntKind.wrap .i64 ((Go.IntKind.wrap .i64 ((s_counts_ceil (Go.IntKind.wrap .i64 ((1000 : Int) * (s_base_Size (v_inv p0).1.2.2.1))) (v_inv p0).2) * (s_counts_ceil (Go.IntKind.wrap .i64 ((1000 : Int) * (s_base_Size (v_inv p0).1.2.2.1))) (v_inv p0).2))) * p1.1)))) + (Go.IntKind.wrap .i64 ((Go.IntKind.wrap .i64 ((s_counts_ceil (Go.IntKind.wrap .i64 ((1000 : Int) * (s_base_Size (v_inv p0).1.2.2.2.1))) (v_inv p0).2) * (s_counts_ceil (Go.IntKind.wrap .i64 ((1000 : Int) * (s_base_Size (v_inv p0).1.2.2.2.1))) (v_inv p0).2))) * p1.2.1)))) + (Go.IntKind.wrap .i64 ((Go.IntKind.wrap .i64 ((s_counts_ceil (Go.IntKind.wrap .i64 ((1000 : Int) * (s_base_Size (v_inv p0).1.2.2.2.2))) (v_inv p0).2) * (s_counts_ceil (Go.IntKind.wrap .i64 ((1000 : Int) * (s_base_Size (v_inv p0).1.2.2.2.2))) (v_inv p0).2))) * p1.2.2))))))
abbrev pre_ref06_Errors (p0 : CR) (p1 : (Int × (Int × Int))) : List Prop := [(v_rules p0),
    ((v_inv p0).2 ≠ (0 : Int))]
set_option maxHeartbeats 4000000 in
theorem d_ref06_Errors (p0 : CR) (p1 : (Int × (Int × Int))) (K : (Int × (Int × Int)) → Prop) (hp : ∀ p ∈ pre_ref06_Errors p0 p1, p) (h : K (s_ref06_Errors p0 p1)) : w_ref06_Errors p0 p1 K := by
  unfold w_ref06_Errors
  unfold s_ref06_Errors at h
  obtain ⟨hp0, hp1, _⟩ := conj_of hp
  exact ⟨(hp0), 31, fun _ => ⟨31, fun _ => ⟨(od rfl), (od rfl), (od rfl), (od rfl), (hp1), (od rfl), (od rfl), (od rfl), (od rfl), (od rfl), (od rfl), fun _ => ⟨(od rfl), (od rfl), (od rfl), (od rfl), (hp1), (od rfl), (od rfl), (od rfl), (od rfl), (od rfl), (od rfl), fun _ => ⟨(od rfl), (od rfl), (od rfl), (od rfl), (hp1), (od rfl), (od rfl), (od rfl), (od rfl), (od rfl), (od rfl), nof, fun _ => ⟨fun _ => ⟨31, fun _ => ⟨(od rfl), (od rfl), (od rfl), (od rfl), (hp1), (od rfl), (od rfl), (od rfl), (od rfl), (od rfl), (od rfl), fun _ => ⟨(od rfl), (od rfl), (od rfl), (od rfl), (hp1), (od rfl), (od rfl), (od rfl), (od rfl), (od rfl), (od rfl), fun _ => ⟨(od rfl), (od rfl), (od rfl), (od rfl), (hp1), (od rfl), (od rfl), (od rfl), (od rfl), (od rfl), (od rfl), nof, fun _ => ⟨fun _ => ⟨31, fun _ => ⟨(od rfl), (od rfl), (od rfl), (od rfl), (hp1), (od rfl), (od rfl), (od rfl), (od rfl), (od rfl), (od rfl), fun _ => ⟨(od rfl), (od rfl), (od rfl), (od rfl), (hp1), (od rfl), (od rfl), (od rfl), (od rfl), (od rfl), (od rfl), fun _ => ⟨(od rfl), (od rfl), (od rfl), (od rfl), (hp1), (od rfl), (od rfl), (od rfl), (od rfl), (od rfl), (od rfl), nof, fun _ => ⟨nof, fun _ => h⟩⟩, fun e => Bool.noConfusion (show true = false from e)⟩, fun e => Bool.noConfusion (show true = false from e)⟩, fun e => Bool.noConfusion (show true = false from e)⟩, fun e => Bool.noConfusion (show true = false from e)⟩⟩, fun e => Bool.noConfusion (show true = false from e)⟩, fun e => Bool.noConfusion (show true = false from e)⟩, fun e => Bool.noConfusion (show true = false from e)⟩, fun e => Bool.noConfusion (show true = false from e)⟩⟩, fun e => Bool.noConfusion (show true = false from e)⟩, fun e => Bool.noConfusion (show true = false from e)⟩, fun e => Bool.noConfusion (show true = false from e)⟩, fun e => Bool.noConfusion (show true = false from e)⟩
abbrev t_ref06_Errors (p0 : CR) (p1 : Int × Int × Int) : Int × Int × Int := v_errs (v_inv p0) p1
abbrev qre_ref06_Errors (p0 : CR) (_ : Int × Int × Int) : List Prop := [v_rules p0]
theorem pp_ref06_Errors (p0 : CR) (p1 : Int × Int × Int) (hq : ∀ p ∈ qre_ref06_Errors p0 p1, p) : ∀ p ∈ pre_ref06_Errors p0 p1, p := by
  have hv := (conj_of hq).1
  have := tx_invden hv
  intro p hp
  simp only [pre_ref06_Errors, List.mem_cons, List.not_mem_nil, or_false] at hp
  rcases hp with rfl | rfl
  · exact hv
  · omega
theorem tt_ref06_Errors (p0 : CR) (p1 : Int × Int × Int) (_ : ∀ p ∈ qre_ref06_Errors p0 p1, p) : s_ref06_Errors p0 p1 = t_ref06_Errors p0 p1 := by
  have e : ∀ n d : Int, s_counts_ceil (IntKind.i64.wrap (1000 * s_base_Size n)) d = v_wt n d := by
    intro n d
    rw [Int.mul_comm]; rfl
  unfold s_ref06_Errors
  simp only [e]
  rfl

abbrev con_ref06_Errors : Con := ⟨P_ref06_Errors, R_ref06_Errors, fun x => qre_ref06_Errors x.1 x.2, fun x => t_ref06_Errors x.1 x.2⟩
theorem ok_ref06_Errors : ConOk Try.prog 69 con_ref06_Errors := ⟨k_ref06_Errors, fun x hx => ret_tf (ps := P_ref06_Errors) (rs := R_ref06_Errors) (x := x) (y := t_ref06_Errors x.1 x.2) e_ref06_Errors hC_ref06_Errors (tf_of (w_ref06_Errors_eq x.1 x.2 (fun z => z = t_ref06_Errors x.1 x.2)) (d_ref06_Errors x.1 x.2 (fun z => z = t_ref06_Errors x.1 x.2) (pp_ref06_Errors x.1 x.2 hx) (tt_ref06_Errors x.1 x.2 hx)))⟩
/- ref06_ValueErr -/
def C_ref06_ValueErr : Cons := [(40, [], con_base_Within)]
theorem hC_ref06_ValueErr : ConsOk Try.prog C_ref06_ValueErr := ConsOk.cons ok_base_Within <| ConsOk.nil
def w_ref06_ValueErr (p0 : (Int × Int)) (K : Int → Prop) : Prop :=
  ((((!(s_base_Within p0.1 (-1000000000 : Int) (1000000000 : Int))) = false) →
  ((!(s_base_Within p0.1 (-1000000000 : Int) (1000000000 : Int))) = (!(s_base_Within p0.1 (-1000000000 : Int) (1000000000 : Int))))) ∧
  ((((!(s_base_Within p0.1 (-1000000000 : Int) (1000000000 : Int))) = false) →
  ((!(s_base_Within p0.1 (-1000000000 : Int) (1000000000 : Int))) = (!(s_base_Within p0.1 (-1000000000 : Int) (1000000000 : Int))))) ∧
  ((((!(s_base_Within p0.1 (-1000000000 : Int) (1000000000 : Int))) = false) →
  ((!(s_base_Within p0.1 (-1000000000 : Int) (1000000000 : Int))) = (!(s_base_Within p0.1 (-1000000000 : Int) (1000000000 : Int))))) ∧
  (((!(s_base_Within p0.1 (-1000000000 : Int) (1000000000 : Int))) = (!(s_base_Within p0.1 (-1000000000 : Int) (1000000000 : Int)))) ∧
  ((((cond (!(s_base_Within p0.1 (-1000000000 : Int) (1000000000 : Int))) true (!(s_base_Within p0.2 (-1000000000 : Int) (1000000000 : Int)))) = true) →
  (K (2 : Int))) ∧
  (((cond (!(s_base_Within p0.1 (-1000000000 : Int) (1000000000 : Int))) true (!(s_base_Within p0.2 (-1000000000 : Int) (1000000000 : Int)))) = false) →
  ((((decide (p0.1 > p0.2)) = true) →
    (K (9 : Int))) ∧
    (((decide (p0.1 > p0.2)) = false) →
    (K (0 : Int))))))))))
set_option maxHeartbeats 4000000 in
theorem w_ref06_ValueErr_eq (p0 : (Int × Int)) (K : Int → Prop) : tfn F_ref06_ValueErr A_ref06_ValueErr C_ref06_ValueErr P_ref06_ValueErr R_ref06_ValueErr p0 K = w_ref06_ValueErr p0 K := by kernel_rfl
def s_ref06_ValueErr (p0 : (Int × Int)) : Int :=
  (cond (cond (!(s_base_Within p0.1 (-1000000000 : Int) (1000000000 : Int))) true (!(s_base_Within p0.2 (-1000000000 : Int) (1000000000 : Int)))) (2 : Int)
    (cond (decide (p0.1 > p0.2)) (9 : Int)
    (0 : Int)))
abbrev pre_ref06_ValueErr (p0 : (Int × Int)) : List Prop := []
set_option maxHeartbeats 4000000 in
theorem d_ref06_ValueErr (p0 : (Int × Int)) (K : Int → Prop) (hp : ∀ p ∈ pre_ref06_ValueErr p0, p) (h : K (s_ref06_ValueErr p0)) : w_ref06_ValueErr p0 K := by
  unfold w_ref06_ValueErr
  unfold s_ref06_ValueErr at h
  exact ⟨rf, rf, rf, rfl, (br' h (fun e0 h => h)
    (fun e0 h => (br' h (fun e1 h => h)
    (fun e1 h => h))))⟩
abbrev t_ref06_ValueErr (p0 : Int × Int) : Int := s_counts_valueErr p0
abbrev qre_ref06_ValueErr (_ : Int × Int) : List Prop := []
theorem pp_ref06_ValueErr (p0 : Int × Int) (_ : ∀ p ∈ qre_ref06_ValueErr p0, p) : ∀ p ∈ pre_ref06_ValueErr p0, p := by
  intro p hp
  simp only [pre_ref06_ValueErr, List.not_mem_nil] at hp
theorem tt_ref06_ValueErr (p0 : Int × Int) (_ : ∀ p ∈ qre_ref06_ValueErr p0, p) : s_ref06_ValueErr p0 = t_ref06_ValueErr p0 := by
  have e : t_ref06_ValueErr p0 = s_counts_first (s_counts_unless (cond (s_counts_within p0.1 (-1000000000) 1000000000) (s_counts_within p0.2 (-1000000000) 1000000000) false) 2 :: s_counts_unless (decide (p0.1 ≤ p0.2)) 9 :: []) := rfl
  rw [e]
  unfold s_ref06_ValueErr
  rw [tx_err _ _ _ (by decide), tx_err _ _ _ (by decide), tx_eqw, tx_eqw]
  have e1 : decide (p0.1 ≤ p0.2) = !decide (p0.1 > p0.2) := by by_cases h : p0.1 > p0.2 <;> simp [h] <;> omega
  rw [e1]
  cases s_counts_within p0.1 (-1000000000) 1000000000 <;> cases s_counts_within p0.2 (-1000000000) 1000000000 <;> cases decide (p0.1 > p0.2) <;> rfl

abbrev con_ref06_ValueErr : Con := ⟨P_ref06_ValueErr, R_ref06_ValueErr, fun x => qre_ref06_ValueErr x, fun x => t_ref06_ValueErr x⟩
theorem ok_ref06_ValueErr : ConOk Try.prog 64 con_ref06_ValueErr := ⟨k_ref06_ValueErr, fun x hx => ret_tf (ps := P_ref06_ValueErr) (rs := R_ref06_ValueErr) (x := x) (y := t_ref06_ValueErr x) e_ref06_ValueErr hC_ref06_ValueErr (tf_of (w_ref06_ValueErr_eq x (fun z => z = t_ref06_ValueErr x)) (d_ref06_ValueErr x (fun z => z = t_ref06_ValueErr x) (pp_ref06_ValueErr x hx) (tt_ref06_ValueErr x hx)))⟩
/- ref06_ValuesErr -/
def C_ref06_ValuesErr : Cons := [(64, [], con_ref06_ValueErr)]
theorem hC_ref06_ValuesErr : ConsOk Try.prog C_ref06_ValuesErr := ConsOk.cons ok_ref06_ValueErr <| ConsOk.nil
def w_ref06_ValuesErr (p0 : R3) (K : Int → Prop) : Prop :=
  (∃ n0, (loopP (fun (y1 : Int) k2 =>
    ((((decide (y1 < (3 : Int))) = true) →
    (((0 : Int) ≤ y1) ∧
      ((y1 < (3 : Int)) ∧
      (((((s_counts_valueErr ((List.getD (p0.1.1 :: (p0.2.1.1 :: (p0.2.2.1 :: ([] : List Int)))) (Int.toNat y1) (0 : Int)), (List.getD (p0.1.2 :: (p0.2.1.2 :: (p0.2.2.2 :: ([] : List Int)))) (Int.toNat y1) (0 : Int)))) != (0 : Int)) = true) →
      (K (s_counts_valueErr ((List.getD (p0.1.1 :: (p0.2.1.1 :: (p0.2.2.1 :: ([] : List Int)))) (Int.toNat y1) (0 : Int)), (List.getD (p0.1.2 :: (p0.2.1.2 :: (p0.2.2.2 :: ([] : List Int)))) (Int.toNat y1) (0 : Int)))))) ∧
      ((((s_counts_valueErr ((List.getD (p0.1.1 :: (p0.2.1.1 :: (p0.2.2.1 :: ([] : List Int)))) (Int.toNat y1) (0 : Int)), (List.getD (p0.1.2 :: (p0.2.1.2 :: (p0.2.2.2 :: ([] : List Int)))) (Int.toNat y1) (0 : Int)))) != (0 : Int)) = false) →
      (k2 (Go.IntKind.wrap .i64 (y1 + (1 : Int))))))))) ∧
    (((decide (y1 < (3 : Int))) = false) →
    (K (0 : Int))))) n0 (0 : Int)))
set_option maxHeartbeats 4000000 in
theorem w_ref06_ValuesErr_eq (p0 : R3) (K : Int → Prop) : tfn F_ref06_ValuesErr A_ref06_ValuesErr C_ref06_ValuesErr P_ref06_ValuesErr R_ref06_ValuesErr p0 K = w_ref06_ValuesErr p0 K := by kernel_rfl
def s_ref06_ValuesErr (p0 : R3) : Int :=
  (cond ((s_counts_valueErr p0.1) != (0 : Int)) (s_counts_valueErr p0.1)
    (cond ((s_counts_valueErr p0.2.1) != (0 : Int)) (s_counts_valueErr p0.2.1)
    (cond ((s_counts_valueErr p0.2.2) != (0 : Int)) (s_counts_valueErr p0.2.2)
    (0 : Int))))
abbrev pre_ref06_ValuesErr (p0 : R3) : List Prop := []
set_option maxHeartbeats 4000000 in
theorem d_ref06_ValuesErr (p0 : R3) (K : Int → Prop) (hp : ∀ p ∈ pre_ref06_ValuesErr p0, p) (h : K (s_ref06_ValuesErr p0)) : w_ref06_ValuesErr p0 K := by
  unfold w_ref06_ValuesErr
  unfold s_ref06_ValuesErr at h
  exact ⟨31, fun _ => ⟨(od rfl), (od rfl), (br' h (fun e0 h => h)
    (fun e0 h => ⟨fun _ => ⟨(od rfl), (od rfl), (br' h (fun e1 h => h)
    (fun e1 h => ⟨fun _ => ⟨(od rfl), (od rfl), (br' h (fun e2 h => h)
    (fun e2 h => ⟨nof, fun _ => h⟩))⟩, fun e => Bool.noConfusion (show true = false from e)⟩))⟩, fun e => Bool.noConfusion (show true = false from e)⟩))⟩, fun e => Bool.noConfusion (show true = false from e)⟩
abbrev t_ref06_ValuesErr (p0 : R3) : Int := v_vals p0
abbrev qre_ref06_ValuesErr (_ : R3) : List Prop := []
theorem pp_ref06_ValuesErr (p0 : R3) (_ : ∀ p ∈ qre_ref06_ValuesErr p0, p) : ∀ p ∈ pre_ref06_ValuesErr p0, p := by
  intro p hp
  simp only [pre_ref06_ValuesErr, List.not_mem_nil] at hp
theorem tt_ref06_ValuesErr (p0 : R3) (_ : ∀ p ∈ qre_ref06_ValuesErr p0, p) : s_ref06_ValuesErr p0 = t_ref06_ValuesErr p0 := by
  unfold s_ref06_ValuesErr t_ref06_ValuesErr v_vals
  have z : s_counts_first [] = 0 := rfl
  simp only [tx_first_cons, z, tx_self]

abbrev con_ref06_ValuesErr : Con := ⟨P_ref06_ValuesErr, R_ref06_ValuesErr, fun x => qre_ref06_ValuesErr x, fun x => t_ref06_ValuesErr x⟩
theorem ok_ref06_ValuesErr : ConOk Try.prog 44 con_ref06_ValuesErr := ⟨k_ref06_ValuesErr, fun x hx => ret_tf (ps := P_ref06_ValuesErr) (rs := R_ref06_ValuesErr) (x := x) (y := t_ref06_ValuesErr x) e_ref06_ValuesErr hC_ref06_ValuesErr (tf_of (w_ref06_ValuesErr_eq x (fun z => z = t_ref06_ValuesErr x)) (d_ref06_ValuesErr x (fun z => z = t_ref06_ValuesErr x) (pp_ref06_ValuesErr x hx) (tt_ref06_ValuesErr x hx)))⟩
/- ref06_rounded -/
def C_ref06_rounded : Cons := [(46, [], con_base_Floor), (47, [], con_base_Ceil)]
theorem hC_ref06_rounded : ConsOk Try.prog C_ref06_rounded := ConsOk.cons ok_base_Floor <| ConsOk.cons ok_base_Ceil <| ConsOk.nil
def w_ref06_rounded (p0 : Int) (p1 : Int) (p2 : Int) (K : (Int × Int) → Prop) : Prop :=
  ((p2 ≠ (0 : Int)) ∧
  ((p2 ≠ (0 : Int)) ∧
  (K ((s_counts_floor p0 p2), (s_counts_ceil p1 p2)))))
set_option maxHeartbeats 4000000 in
theorem w_ref06_rounded_eq (p0 : Int) (p1 : Int) (p2 : Int) (K : (Int × Int) → Prop) : tfn F_ref06_rounded A_ref06_rounded C_ref06_rounded P_ref06_rounded R_ref06_rounded (p0, p1, p2) K = w_ref06_rounded p0 p1 p2 K := by kernel_rfl
def s_ref06_rounded (p0 : Int) (p1 : Int) (p2 : Int) : (Int × Int) :=
  ((s_counts_floor p0 p2), (s_counts_ceil p1 p2))
abbrev pre_ref06_rounded (p0 : Int) (p1 : Int) (p2 : Int) : List Prop := [(p2 ≠ (0 : Int))]
set_option maxHeartbeats 4000000 in
theorem d_ref06_rounded (p0 : Int) (p1 : Int) (p2 : Int) (K : (Int × Int) → Prop) (hp : ∀ p ∈ pre_ref06_rounded p0 p1 p2, p) (h : K (s_ref06_rounded p0 p1 p2)) : w_ref06_rounded p0 p1 p2 K := by
  unfold w_ref06_rounded
  unfold s_ref06_rounded at h
  obtain ⟨hp0, _⟩ := conj_of hp
  exact ⟨(hp0), (hp0), h⟩
abbrev t_ref06_rounded (p0 : Int) (p1 : Int) (p2 : Int) : Int × Int := s_counts_rounded (p0, p1) p2
abbrev qre_ref06_rounded (_ : Int) (_ : Int) (p2 : Int) : List Prop := [p2 ≠ 0]
theorem pp_ref06_rounded (p0 : Int) (p1 : Int) (p2 : Int) (hq : ∀ p ∈ qre_ref06_rounded p0 p1 p2, p) : ∀ p ∈ pre_ref06_rounded p0 p1 p2, p := by
  have hv := conj_of hq
  intro p hp
  simp only [pre_ref06_rounded, List.mem_cons, List.not_mem_nil, or_false] at hp
  subst hp
  all_goals first | exact hv.1 | (intros; exact hv.1)

theorem tt_ref06_rounded (p0 : Int) (p1 : Int) (p2 : Int) (hq : ∀ p ∈ qre_ref06_rounded p0 p1 p2, p) : s_ref06_rounded p0 p1 p2 = t_ref06_rounded p0 p1 p2 := by
  have hv := conj_of hq
  rfl

abbrev con_ref06_rounded : Con := ⟨P_ref06_rounded, R_ref06_rounded, fun x => qre_ref06_rounded x.1 x.2.1 x.2.2, fun x => t_ref06_rounded x.1 x.2.1 x.2.2⟩
theorem ok_ref06_rounded : ConOk Try.prog 91 con_ref06_rounded := ⟨k_ref06_rounded, fun x hx => ret_tf (ps := P_ref06_rounded) (rs := R_ref06_rounded) (x := x) (y := t_ref06_rounded x.1 x.2.1 x.2.2) e_ref06_rounded hC_ref06_rounded (tf_of (w_ref06_rounded_eq x.1 x.2.1 x.2.2 (fun z => z = t_ref06_rounded x.1 x.2.1 x.2.2)) (d_ref06_rounded x.1 x.2.1 x.2.2 (fun z => z = t_ref06_rounded x.1 x.2.1 x.2.2) (pp_ref06_rounded x.1 x.2.1 x.2.2 hx) (tt_ref06_rounded x.1 x.2.1 x.2.2 hx)))⟩
/- ref06_product -/
def C_ref06_product : Cons := [(91, [], con_ref06_rounded)]
theorem hC_ref06_product : ConsOk Try.prog C_ref06_product := ConsOk.cons ok_ref06_rounded <| ConsOk.nil
def w_ref06_product (p0 : M3) (p1 : R3) (p2 : Int) (K : R3 → Prop) : Prop :=
  (∃ n0, (loopP (fun (y1 : (Int × (Int × (Int × (Int × (Int × (Int × Int))))))) k2 =>
    ((((decide (y1.1 < (3 : Int))) = true) →
    (∃ n3, (loopP (fun (y4 : (Int × (Int × Int))) k5 =>
        ((((decide (y4.1 < (3 : Int))) = true) →
        (((0 : Int) ≤ y1.1) ∧
          ((y1.1 < (3 : Int)) ∧
          (((0 : Int) ≤ y4.1) ∧
          ((y4.1 < (3 : Int)) ∧
          ((((decide ((List.getD ((List.getD (p0.1.1 :: (p0.2.1.1 :: (p0.2.2.1 :: ([] : List Int)))) (Int.toNat y1.1) (0 : Int)) :: ((List.getD (p0.1.2.1 :: (p0.2.1.2.1 :: (p0.2.2.2.1 :: ([] : List Int)))) (Int.toNat y1.1) (0 : Int)) :: ((List.getD (p0.1.2.2 :: (p0.2.1.2.2 :: (p0.2.2.2.2 :: ([] : List Int)))) (Int.toNat y1.1) (0 : Int)) :: ([] : List Int)))) (Int.toNat y4.1) (0 : Int)) ≥ (0 : Int))) = true) →
          (((0 : Int) ≤ y1.1) ∧
            ((y1.1 < (3 : Int)) ∧
            (((0 : Int) ≤ y4.1) ∧
            ((y4.1 < (3 : Int)) ∧
            (((0 : Int) ≤ y4.1) ∧
            ((y4.1 < (3 : Int)) ∧
            (((0 : Int) ≤ y1.1) ∧
            ((y1.1 < (3 : Int)) ∧
            (((0 : Int) ≤ y4.1) ∧
            ((y4.1 < (3 : Int)) ∧
            (((0 : Int) ≤ y4.1) ∧
            ((y4.1 < (3 : Int)) ∧
            (k5 ((Go.IntKind.wrap .i64 (y4.1 + (1 : Int))), ((Go.IntKind.wrap .i64 (y4.2.1 + (Go.IntKind.wrap .i64 ((List.getD ((List.getD (p0.1.1 :: (p0.2.1.1 :: (p0.2.2.1 :: ([] : List Int)))) (Int.toNat y1.1) (0 : Int)) :: ((List.getD (p0.1.2.1 :: (p0.2.1.2.1 :: (p0.2.2.2.1 :: ([] : List Int)))) (Int.toNat y1.1) (0 : Int)) :: ((List.getD (p0.1.2.2 :: (p0.2.1.2.2 :: (p0.2.2.2.2 :: ([] : List Int)))) (Int.toNat y1.1) (0 : Int)) :: ([] : List Int)))) (Int.toNat y4.1) (0 : Int)) * (List.getD (p1.1.2 :: (p1.2.1.2 :: (p1.2.2.2 :: ([] : List Int)))) (Int.toNat y4.1) (0 : Int)))))), (Go.IntKind.wrap .i64 (y4.2.2 + (Go.IntKind.wrap .i64 ((List.getD ((List.getD (p0.1.1 :: (p0.2.1.1 :: (p0.2.2.1 :: ([] : List Int)))) (Int.toNat y1.1) (0 : Int)) :: ((List.getD (p0.1.2.1 :: (p0.2.1.2.1 :: (p0.2.2.2.1 :: ([] : List Int)))) (Int.toNat y1.1) (0 : Int)) :: ((List.getD (p0.1.2.2 :: (p0.2.1.2.2 :: (p0.2.2.2.2 :: ([] : List Int)))) (Int.toNat y1.1) (0 : Int)) :: ([] : List Int)))) (Int.toNat y4.1) (0 : Int)) * (List.getD (p1.1.1 :: (p1.2.1.1 :: (p1.2.2.1 :: ([] : List Int)))) (Int.toNat y4.1) (0 : Int)))))))))))))))))))))) ∧
          (((decide ((List.getD ((List.getD (p0.1.1 :: (p0.2.1.1 :: (p0.2.2.1 :: ([] : List Int)))) (Int.toNat y1.1) (0 : Int)) :: ((List.getD (p0.1.2.1 :: (p0.2.1.2.1 :: (p0.2.2.2.1 :: ([] : List Int)))) (Int.toNat y1.1) (0 : Int)) :: ((List.getD (p0.1.2.2 :: (p0.2.1.2.2 :: (p0.2.2.2.2 :: ([] : List Int)))) (Int.toNat y1.1) (0 : Int)) :: ([] : List Int)))) (Int.toNat y4.1) (0 : Int)) ≥ (0 : Int))) = false) →
          (((0 : Int) ≤ y1.1) ∧
            ((y1.1 < (3 : Int)) ∧
            (((0 : Int) ≤ y4.1) ∧
            ((y4.1 < (3 : Int)) ∧
            (((0 : Int) ≤ y4.1) ∧
            ((y4.1 < (3 : Int)) ∧
            (((0 : Int) ≤ y1.1) ∧
            ((y1.1 < (3 : Int)) ∧
            (((0 : Int) ≤ y4.1) ∧
            ((y4.1 < (3 : Int)) ∧
            (((0 : Int) ≤ y4.1) ∧
            ((y4.1 < (3 : Int)) ∧
            (k5 ((Go.IntKind.wrap .i64 (y4.1 + (1 : Int))), ((Go.IntKind.wrap .i64 (y4.2.1 + (Go.IntKind.wrap .i64 ((List.getD ((List.getD (p0.1.1 :: (p0.2.1.1 :: (p0.2.2.1 :: ([] : List Int)))) (Int.toNat y1.1) (0 : Int)) :: ((List.getD (p0.1.2.1 :: (p0.2.1.2.1 :: (p0.2.2.2.1 :: ([] : List Int)))) (Int.toNat y1.1) (0 : Int)) :: ((List.getD (p0.1.2.2 :: (p0.2.1.2.2 :: (p0.2.2.2.2 :: ([] : List Int)))) (Int.toNat y1.1) (0 : Int)) :: ([] : List Int)))) (Int.toNat y4.1) (0 : Int)) * (List.getD (p1.1.1 :: (p1.2.1.1 :: (p1.2.2.1 :: ([] : List Int)))) (Int.toNat y4.1) (0 : Int)))))), (Go.IntKind.wrap .i64 (y4.2.2 + (Go.IntKind.wrap .i64 ((List.getD ((List.getD (p0.1.1 :: (p0.2.1.1 :: (p0.2.2.1 :: ([] : List Int)))) (Int.toNat y1.1) (0 : Int)) :: ((List.getD (p0.1.2.1 :: (p0.2.1.2.1 :: (p0.2.2.2.1 :: ([] : List Int)))) (Int.toNat y1.1) (0 : Int)) :: ((List.getD (p0.1.2.2 :: (p0.2.1.2.2 :: (p0.2.2.2.2 :: ([] : List Int)))) (Int.toNat y1.1) (0 : Int)) :: ([] : List Int)))) (Int.toNat y4.1) (0 : Int)) * (List.getD (p1.1.2 :: (p1.2.1.2 :: (p1.2.2.2 :: ([] : List Int)))) (Int.toNat y4.1) (0 : Int)))))))))))))))))))))))))))) ∧
        (((decide (y4.1 < (3 : Int))) = false) →
        ((p2 ≠ (0 : Int)) ∧
          (((0 : Int) ≤ y1.1) ∧
          ((y1.1 < (3 : Int)) ∧
          (k2 ((Go.IntKind.wrap .i64 (y1.1 + (1 : Int))), ((cond (decide (y1.1 = (0 : Int))) (s_counts_rounded (y4.2.2, y4.2.1) p2).1 y1.2.1), ((cond (decide (y1.1 = (0 : Int))) (s_counts_rounded (y4.2.2, y4.2.1) p2).2 y1.2.2.1), ((cond (decide (y1.1 = (1 : Int))) (s_counts_rounded (y4.2.2, y4.2.1) p2).1 y1.2.2.2.1), ((cond (decide (y1.1 = (1 : Int))) (s_counts_rounded (y4.2.2, y4.2.1) p2).2 y1.2.2.2.2.1), ((cond (decide (y1.1 = (2 : Int))) (s_counts_rounded (y4.2.2, y4.2.1) p2).1 y1.2.2.2.2.2.1), (cond (decide (y1.1 = (2 : Int))) (s_counts_rounded (y4.2.2, y4.2.1) p2).2 y1.2.2.2.2.2.2)))))))))))))) n3 ((0 : Int), ((0 : Int), (0 : Int)))))) ∧
    (((decide (y1.1 < (3 : Int))) = false) →
    (K ((y1.2.1, y1.2.2.1), ((y1.2.2.2.1, y1.2.2.2.2.1), y1.2.2.2.2.2)))))) n0 ((0 : Int), ((0 : Int), ((0 : Int), ((0 : Int), ((0 : Int), ((0 : Int), (0 : Int)))))))))
set_option maxHeartbeats 4000000 in
theorem w_ref06_product_eq (p0 : M3) (p1 : R3) (p2 : Int) (K : R3 → Prop) : tfn F_ref06_product A_ref06_product C_ref06_product P_ref06_product R_ref06_product (p0, p1, p2) K = w_ref06_product p0 p1 p2 K := by kernel_rfl
theorem loop4 {σ : Type} {body : σ → (σ → Prop) → Prop} {x0 : σ} (x1 x2 x3 : σ) (h0 : ∀ k : σ → Prop, k x1 → body x0 k) (h1 : ∀ k : σ → Prop, k x2 → body x1 k) (h2 : ∀ k : σ → Prop, k x3 → body x2 k) (h3 : ∀ k : σ → Prop, body x3 k) : loopP body 4 x0 :=
  h0 _ (h1 _ (h2 _ (h3 _)))
theorem pstep {A l : Int × Int} {n j : Int} {k : Int × Int × Int → Prop} (hk : k (j, (s_counts_sum A (s_counts_times l n)).2, (s_counts_sum A (s_counts_times l n)).1)) :
    (decide (n ≥ 0) = true → k (j, IntKind.i64.wrap (A.2 + IntKind.i64.wrap (n * l.2)), IntKind.i64.wrap (A.1 + IntKind.i64.wrap (n * l.1)))) ∧ (decide (n ≥ 0) = false → k (j, IntKind.i64.wrap (A.2 + IntKind.i64.wrap (n * l.1)), IntKind.i64.wrap (A.1 + IntKind.i64.wrap (n * l.2)))) := by
  refine ⟨fun e => ?_, fun e => ?_⟩
  · have e := of_decide_eq_true e
    unfold s_counts_sum s_counts_times at hk
    rw [decide_eq_false (show ¬ n < 0 by omega)] at hk
    exact hk
  · have e := of_decide_eq_false e
    unfold s_counts_sum s_counts_times at hk
    rw [decide_eq_true (show n < 0 by omega)] at hk
    exact hk
def s_ref06_product (p0 : M3) (p1 : R3) (p2 : Int) : R3 := s_counts_product p0 p1 p2
abbrev pre_ref06_product (_ : M3) (_ : R3) (p2 : Int) : List Prop := [p2 ≠ 0]
theorem d_ref06_product (p0 : M3) (p1 : R3) (p2 : Int) (K : R3 → Prop) (hp : ∀ p ∈ pre_ref06_product p0 p1 p2, p) (h : K (s_ref06_product p0 p1 p2)) : w_ref06_product p0 p1 p2 K := by
  have hz : p2 ≠ 0 := (conj_of hp).1
  unfold w_ref06_product
  refine ⟨4, loop4 ((1 : Int), (s_counts_rounded (s_counts_sum (s_counts_sum (s_counts_sum ((0 : Int), (0 : Int)) (s_counts_times p1.1 p0.1.1)) (s_counts_times p1.2.1 p0.1.2.1)) (s_counts_times p1.2.2 p0.1.2.2)) p2).1, (s_counts_rounded (s_counts_sum (s_counts_sum (s_counts_sum ((0 : Int), (0 : Int)) (s_counts_times p1.1 p0.1.1)) (s_counts_times p1.2.1 p0.1.2.1)) (s_counts_times p1.2.2 p0.1.2.2)) p2).2, (0 : Int), (0 : Int), (0 : Int), (0 : Int)) ((2 : Int), (s_counts_rounded (s_counts_sum (s_counts_sum (s_counts_sum ((0 : Int), (0 : Int)) (s_counts_times p1.1 p0.1.1)) (s_counts_times p1.2.1 p0.1.2.1)) (s_counts_times p1.2.2 p0.1.2.2)) p2).1, (s_counts_rounded (s_counts_sum (s_counts_sum (s_counts_sum ((0 : Int), (0 : Int)) (s_counts_times p1.1 p0.1.1)) (s_counts_times p1.2.1 p0.1.2.1)) (s_counts_times p1.2.2 p0.1.2.2)) p2).2, (s_counts_rounded (s_counts_sum (s_counts_sum (s_counts_sum ((0 : Int), (0 : Int)) (s_counts_times p1.1 p0.2.1.1)) (s_counts_times p1.2.1 p0.2.1.2.1)) (s_counts_times p1.2.2 p0.2.1.2.2)) p2).1, (s_counts_rounded (s_counts_sum (s_counts_sum (s_counts_sum ((0 : Int), (0 : Int)) (s_counts_times p1.1 p0.2.1.1)) (s_counts_times p1.2.1 p0.2.1.2.1)) (s_counts_times p1.2.2 p0.2.1.2.2)) p2).2, (0 : Int), (0 : Int)) ((3 : Int), (s_counts_rounded (s_counts_sum (s_counts_sum (s_counts_sum ((0 : Int), (0 : Int)) (s_counts_times p1.1 p0.1.1)) (s_counts_times p1.2.1 p0.1.2.1)) (s_counts_times p1.2.2 p0.1.2.2)) p2).1, (s_counts_rounded (s_counts_sum (s_counts_sum (s_counts_sum ((0 : Int), (0 : Int)) (s_counts_times p1.1 p0.1.1)) (s_counts_times p1.2.1 p0.1.2.1)) (s_counts_times p1.2.2 p0.1.2.2)) p2).2, (s_counts_rounded (s_counts_sum (s_counts_sum (s_counts_sum ((0 : Int), (0 : Int)) (s_counts_times p1.1 p0.2.1.1)) (s_counts_times p1.2.1 p0.2.1.2.1)) (s_counts_times p1.2.2 p0.2.1.2.2)) p2).1, (s_counts_rounded (s_counts_sum (s_counts_sum (s_counts_sum ((0 : Int), (0 : Int)) (s_counts_times p1.1 p0.2.1.1)) (s_counts_times p1.2.1 p0.2.1.2.1)) (s_counts_times p1.2.2 p0.2.1.2.2)) p2).2, (s_counts_rounded (s_counts_sum (s_counts_sum (s_counts_sum ((0 : Int), (0 : Int)) (s_counts_times p1.1 p0.2.2.1)) (s_counts_times p1.2.1 p0.2.2.2.1)) (s_counts_times p1.2.2 p0.2.2.2.2)) p2).1, (s_counts_rounded (s_counts_sum (s_counts_sum (s_counts_sum ((0 : Int), (0 : Int)) (s_counts_times p1.1 p0.2.2.1)) (s_counts_times p1.2.1 p0.2.2.2.1)) (s_counts_times p1.2.2 p0.2.2.2.2)) p2).2) (fun k hk => ?_) (fun k hk => ?_) (fun k hk => ?_) (fun k => ⟨nof, fun _ => h⟩)⟩
  · refine ⟨fun _ => ⟨4, loop4 ((1 : Int), (s_counts_sum ((0 : Int), (0 : Int)) (s_counts_times p1.1 p0.1.1)).2, (s_counts_sum ((0 : Int), (0 : Int)) (s_counts_times p1.1 p0.1.1)).1) ((2 : Int), (s_counts_sum (s_counts_sum ((0 : Int), (0 : Int)) (s_counts_times p1.1 p0.1.1)) (s_counts_times p1.2.1 p0.1.2.1)).2, (s_counts_sum (s_counts_sum ((0 : Int), (0 : Int)) (s_counts_times p1.1 p0.1.1)) (s_counts_times p1.2.1 p0.1.2.1)).1) ((3 : Int), (s_counts_sum (s_counts_sum (s_counts_sum ((0 : Int), (0 : Int)) (s_counts_times p1.1 p0.1.1)) (s_counts_times p1.2.1 p0.1.2.1)) (s_counts_times p1.2.2 p0.1.2.2)).2, (s_counts_sum (s_counts_sum (s_counts_sum ((0 : Int), (0 : Int)) (s_counts_times p1.1 p0.1.1)) (s_counts_times p1.2.1 p0.1.2.1)) (s_counts_times p1.2.2 p0.1.2.2)).1) (fun k5 hk5 => ?_) (fun k5 hk5 => ?_) (fun k5 hk5 => ?_) (fun k5 => ⟨nof, fun _ => ⟨hz, of_decide_eq_true rfl, of_decide_eq_true rfl, hk⟩⟩)⟩, fun e => Bool.noConfusion (show true = false from e)⟩
    · have g := pstep (A := ((0 : Int), (0 : Int))) (l := p1.1) (n := p0.1.1) (j := (1 : Int)) (k := k5) hk5
      exact ⟨fun _ => ⟨of_decide_eq_true rfl, of_decide_eq_true rfl, of_decide_eq_true rfl, of_decide_eq_true rfl, fun e => ⟨of_decide_eq_true rfl, of_decide_eq_true rfl, of_decide_eq_true rfl, of_decide_eq_true rfl, of_decide_eq_true rfl, of_decide_eq_true rfl, of_decide_eq_true rfl, of_decide_eq_true rfl, of_decide_eq_true rfl, of_decide_eq_true rfl, of_decide_eq_true rfl, of_decide_eq_true rfl, g.1 e⟩, fun e => ⟨of_decide_eq_true rfl, of_decide_eq_true rfl, of_decide_eq_true rfl, of_decide_eq_true rfl, of_decide_eq_true rfl, of_decide_eq_true rfl, of_decide_eq_true rfl, of_decide_eq_true rfl, of_decide_eq_true rfl, of_decide_eq_true rfl, of_decide_eq_true rfl, of_decide_eq_true rfl, g.2 e⟩⟩, fun e => Bool.noConfusion (show true = false from e)⟩
    · have g := pstep (A := (s_counts_sum ((0 : Int), (0 : Int)) (s_counts_times p1.1 p0.1.1))) (l := p1.2.1) (n := p0.1.2.1) (j := (2 : Int)) (k := k5) hk5
      exact ⟨fun _ => ⟨of_decide_eq_true rfl, of_decide_eq_true rfl, of_decide_eq_true rfl, of_decide_eq_true rfl, fun e => ⟨of_decide_eq_true rfl, of_decide_eq_true rfl, of_decide_eq_true rfl, of_decide_eq_true rfl, of_decide_eq_true rfl, of_decide_eq_true rfl, of_decide_eq_true rfl, of_decide_eq_true rfl, of_decide_eq_true rfl, of_decide_eq_true rfl, of_decide_eq_true rfl, of_decide_eq_true rfl, g.1 e⟩, fun e => ⟨of_decide_eq_true rfl, of_decide_eq_true rfl, of_decide_eq_true rfl, of_decide_eq_true rfl, of_decide_eq_true rfl, of_decide_eq_true rfl, of_decide_eq_true rfl, of_decide_eq_true rfl, of_decide_eq_true rfl, of_decide_eq_true rfl, of_decide_eq_true rfl, of_decide_eq_true rfl, g.2 e⟩⟩, fun e => Bool.noConfusion (show true = false from e)⟩
    · have g := pstep (A := (s_counts_sum (s_counts_sum ((0 : Int), (0 : Int)) (s_counts_times p1.1 p0.1.1)) (s_counts_times p1.2.1 p0.1.2.1))) (l := p1.2.2) (n := p0.1.2.2) (j := (3 : Int)) (k := k5) hk5
      exact ⟨fun _ => ⟨of_decide_eq_true rfl, of_decide_eq_true rfl, of_decide_eq_true rfl, of_decide_eq_true rfl, fun e => ⟨of_decide_eq_true rfl, of_decide_eq_true rfl, of_decide_eq_true rfl, of_decide_eq_true rfl, of_decide_eq_true rfl, of_decide_eq_true rfl, of_decide_eq_true rfl, of_decide_eq_true rfl, of_decide_eq_true rfl, of_decide_eq_true rfl, of_decide_eq_true rfl, of_decide_eq_true rfl, g.1 e⟩, fun e => ⟨of_decide_eq_true rfl, of_decide_eq_true rfl, of_decide_eq_true rfl, of_decide_eq_true rfl, of_decide_eq_true rfl, of_decide_eq_true rfl, of_decide_eq_true rfl, of_decide_eq_true rfl, of_decide_eq_true rfl, of_decide_eq_true rfl, of_decide_eq_true rfl, of_decide_eq_true rfl, g.2 e⟩⟩, fun e => Bool.noConfusion (show true = false from e)⟩
  · refine ⟨fun _ => ⟨4, loop4 ((1 : Int), (s_counts_sum ((0 : Int), (0 : Int)) (s_counts_times p1.1 p0.2.1.1)).2, (s_counts_sum ((0 : Int), (0 : Int)) (s_counts_times p1.1 p0.2.1.1)).1) ((2 : Int), (s_counts_sum (s_counts_sum ((0 : Int), (0 : Int)) (s_counts_times p1.1 p0.2.1.1)) (s_counts_times p1.2.1 p0.2.1.2.1)).2, (s_counts_sum (s_counts_sum ((0 : Int), (0 : Int)) (s_counts_times p1.1 p0.2.1.1)) (s_counts_times p1.2.1 p0.2.1.2.1)).1) ((3 : Int), (s_counts_sum (s_counts_sum (s_counts_sum ((0 : Int), (0 : Int)) (s_counts_times p1.1 p0.2.1.1)) (s_counts_times p1.2.1 p0.2.1.2.1)) (s_counts_times p1.2.2 p0.2.1.2.2)).2, (s_counts_sum (s_counts_sum (s_counts_sum ((0 : Int), (0 : Int)) (s_counts_times p1.1 p0.2.1.1)) (s_counts_times p1.2.1 p0.2.1.2.1)) (s_counts_times p1.2.2 p0.2.1.2.2)).1) (fun k5 hk5 => ?_) (fun k5 hk5 => ?_) (fun k5 hk5 => ?_) (fun k5 => ⟨nof, fun _ => ⟨hz, of_decide_eq_true rfl, of_decide_eq_true rfl, hk⟩⟩)⟩, fun e => Bool.noConfusion (show true = false from e)⟩
    · have g := pstep (A := ((0 : Int), (0 : Int))) (l := p1.1) (n := p0.2.1.1) (j := (1 : Int)) (k := k5) hk5
      exact ⟨fun _ => ⟨of_decide_eq_true rfl, of_decide_eq_true rfl, of_decide_eq_true rfl, of_decide_eq_true rfl, fun e => ⟨of_decide_eq_true rfl, of_decide_eq_true rfl, of_decide_eq_true rfl, of_decide_eq_true rfl, of_decide_eq_true rfl, of_decide_eq_true rfl, of_decide_eq_true rfl, of_decide_eq_true rfl, of_decide_eq_true rfl, of_decide_eq_true rfl, of_decide_eq_true rfl, of_decide_eq_true rfl, g.1 e⟩, fun e => ⟨of_decide_eq_true rfl, of_decide_eq_true rfl, of_decide_eq_true rfl, of_decide_eq_true rfl, of_decide_eq_true rfl, of_decide_eq_true rfl, of_decide_eq_true rfl, of_decide_eq_true rfl, of_decide_eq_true rfl, of_decide_eq_true rfl, of_decide_eq_true rfl, of_decide_eq_true rfl, g.2 e⟩⟩, fun e => Bool.noConfusion (show true = false from e)⟩
    · have g := pstep (A := (s_counts_sum ((0 : Int), (0 : Int)) (s_counts_times p1.1 p0.2.1.1))) (l := p1.2.1) (n := p0.2.1.2.1) (j := (2 : Int)) (k := k5) hk5
      exact ⟨fun _ => ⟨of_decide_eq_true rfl, of_decide_eq_true rfl, of_decide_eq_true rfl, of_decide_eq_true rfl, fun e => ⟨of_decide_eq_true rfl, of_decide_eq_true rfl, of_decide_eq_true rfl, of_decide_eq_true rfl, of_decide_eq_true rfl, of_decide_eq_true rfl, of_decide_eq_true rfl, of_decide_eq_true rfl, of_decide_eq_true rfl, of_decide_eq_true rfl, of_decide_eq_true rfl, of_decide_eq_true rfl, g.1 e⟩, fun e => ⟨of_decide_eq_true rfl, of_decide_eq_true rfl, of_decide_eq_true rfl, of_decide_eq_true rfl, of_decide_eq_true rfl, of_decide_eq_true rfl, of_decide_eq_true rfl, of_decide_eq_true rfl, of_decide_eq_true rfl, of_decide_eq_true rfl, of_decide_eq_true rfl, of_decide_eq_true rfl, g.2 e⟩⟩, fun e => Bool.noConfusion (show true = false from e)⟩
    · have g := pstep (A := (s_counts_sum (s_counts_sum ((0 : Int), (0 : Int)) (s_counts_times p1.1 p0.2.1.1)) (s_counts_times p1.2.1 p0.2.1.2.1))) (l := p1.2.2) (n := p0.2.1.2.2) (j := (3 : Int)) (k := k5) hk5
      exact ⟨fun _ => ⟨of_decide_eq_true rfl, of_decide_eq_true rfl, of_decide_eq_true rfl, of_decide_eq_true rfl, fun e => ⟨of_decide_eq_true rfl, of_decide_eq_true rfl, of_decide_eq_true rfl, of_decide_eq_true rfl, of_decide_eq_true rfl, of_decide_eq_true rfl, of_decide_eq_true rfl, of_decide_eq_true rfl, of_decide_eq_true rfl, of_decide_eq_true rfl, of_decide_eq_true rfl, of_decide_eq_true rfl, g.1 e⟩, fun e => ⟨of_decide_eq_true rfl, of_decide_eq_true rfl, of_decide_eq_true rfl, of_decide_eq_true rfl, of_decide_eq_true rfl, of_decide_eq_true rfl, of_decide_eq_true rfl, of_decide_eq_true rfl, of_decide_eq_true rfl, of_decide_eq_true rfl, of_decide_eq_true rfl, of_decide_eq_true rfl, g.2 e⟩⟩, fun e => Bool.noConfusion (show true = false from e)⟩
  · refine ⟨fun _ => ⟨4, loop4 ((1 : Int), (s_counts_sum ((0 : Int), (0 : Int)) (s_counts_times p1.1 p0.2.2.1)).2, (s_counts_sum ((0 : Int), (0 : Int)) (s_counts_times p1.1 p0.2.2.1)).1) ((2 : Int), (s_counts_sum (s_counts_sum ((0 : Int), (0 : Int)) (s_counts_times p1.1 p0.2.2.1)) (s_counts_times p1.2.1 p0.2.2.2.1)).2, (s_counts_sum (s_counts_sum ((0 : Int), (0 : Int)) (s_counts_times p1.1 p0.2.2.1)) (s_counts_times p1.2.1 p0.2.2.2.1)).1) ((3 : Int), (s_counts_sum (s_counts_sum (s_counts_sum ((0 : Int), (0 : Int)) (s_counts_times p1.1 p0.2.2.1)) (s_counts_times p1.2.1 p0.2.2.2.1)) (s_counts_times p1.2.2 p0.2.2.2.2)).2, (s_counts_sum (s_counts_sum (s_counts_sum ((0 : Int), (0 : Int)) (s_counts_times p1.1 p0.2.2.1)) (s_counts_times p1.2.1 p0.2.2.2.1)) (s_counts_times p1.2.2 p0.2.2.2.2)).1) (fun k5 hk5 => ?_) (fun k5 hk5 => ?_) (fun k5 hk5 => ?_) (fun k5 => ⟨nof, fun _ => ⟨hz, of_decide_eq_true rfl, of_decide_eq_true rfl, hk⟩⟩)⟩, fun e => Bool.noConfusion (show true = false from e)⟩
    · have g := pstep (A := ((0 : Int), (0 : Int))) (l := p1.1) (n := p0.2.2.1) (j := (1 : Int)) (k := k5) hk5
      exact ⟨fun _ => ⟨of_decide_eq_true rfl, of_decide_eq_true rfl, of_decide_eq_true rfl, of_decide_eq_true rfl, fun e => ⟨of_decide_eq_true rfl, of_decide_eq_true rfl, of_decide_eq_true rfl, of_decide_eq_true rfl, of_decide_eq_true rfl, of_decide_eq_true rfl, of_decide_eq_true rfl, of_decide_eq_true rfl, of_decide_eq_true rfl, of_decide_eq_true rfl, of_decide_eq_true rfl, of_decide_eq_true rfl, g.1 e⟩, fun e => ⟨of_decide_eq_true rfl, of_decide_eq_true rfl, of_decide_eq_true rfl, of_decide_eq_true rfl, of_decide_eq_true rfl, of_decide_eq_true rfl, of_decide_eq_true rfl, of_decide_eq_true rfl, of_decide_eq_true rfl, of_decide_eq_true rfl, of_decide_eq_true rfl, of_decide_eq_true rfl, g.2 e⟩⟩, fun e => Bool.noConfusion (show true = false from e)⟩
    · have g := pstep (A := (s_counts_sum ((0 : Int), (0 : Int)) (s_counts_times p1.1 p0.2.2.1))) (l := p1.2.1) (n := p0.2.2.2.1) (j := (2 : Int)) (k := k5) hk5
      exact ⟨fun _ => ⟨of_decide_eq_true rfl, of_decide_eq_true rfl, of_decide_eq_true rfl, of_decide_eq_true rfl, fun e => ⟨of_decide_eq_true rfl, of_decide_eq_true rfl, of_decide_eq_true rfl, of_decide_eq_true rfl, of_decide_eq_true rfl, of_decide_eq_true rfl, of_decide_eq_true rfl, of_decide_eq_true rfl, of_decide_eq_true rfl, of_decide_eq_true rfl, of_decide_eq_true rfl, of_decide_eq_true rfl, g.1 e⟩, fun e => ⟨of_decide_eq_true rfl, of_decide_eq_true rfl, of_decide_eq_true rfl, of_decide_eq_true rfl, of_decide_eq_true rfl, of_decide_eq_true rfl, of_decide_eq_true rfl, of_decide_eq_true rfl, of_decide_eq_true rfl, of_decide_eq_true rfl, of_decide_eq_true rfl, of_decide_eq_true rfl, g.2 e⟩⟩, fun e => Bool.noConfusion (show true = false from e)⟩
    · have g := pstep (A := (s_counts_sum (s_counts_sum ((0 : Int), (0 : Int)) (s_counts_times p1.1 p0.2.2.1)) (s_counts_times p1.2.1 p0.2.2.2.1))) (l := p1.2.2) (n := p0.2.2.2.2) (j := (3 : Int)) (k := k5) hk5
      exact ⟨fun _ => ⟨of_decide_eq_true rfl, of_decide_eq_true rfl, of_decide_eq_true rfl, of_decide_eq_true rfl, fun e => ⟨of_decide_eq_true rfl, of_decide_eq_true rfl, of_decide_eq_true rfl, of_decide_eq_true rfl, of_decide_eq_true rfl, of_decide_eq_true rfl, of_decide_eq_true rfl, of_decide_eq_true rfl, of_decide_eq_true rfl, of_decide_eq_true rfl, of_decide_eq_true rfl, of_decide_eq_true rfl, g.1 e⟩, fun e => ⟨of_decide_eq_true rfl, of_decide_eq_true rfl, of_decide_eq_true rfl, of_decide_eq_true rfl, of_decide_eq_true rfl, of_decide_eq_true rfl, of_decide_eq_true rfl, of_decide_eq_true rfl, of_decide_eq_true rfl, of_decide_eq_true rfl, of_decide_eq_true rfl, of_decide_eq_true rfl, g.2 e⟩⟩, fun e => Bool.noConfusion (show true = false from e)⟩

abbrev con_ref06_product : Con := ⟨P_ref06_product, R_ref06_product, fun x => pre_ref06_product x.1 x.2.1 x.2.2, fun x => s_ref06_product x.1 x.2.1 x.2.2⟩
theorem ok_ref06_product : ConOk Try.prog 115 con_ref06_product := ⟨k_ref06_product, fun x hx => ret_tf (ps := P_ref06_product) (rs := R_ref06_product) (x := x) (y := s_ref06_product x.1 x.2.1 x.2.2) e_ref06_product hC_ref06_product (tf_of (w_ref06_product_eq x.1 x.2.1 x.2.2 (fun z => z = s_ref06_product x.1 x.2.1 x.2.2)) (d_ref06_product x.1 x.2.1 x.2.2 (fun z => z = s_ref06_product x.1 x.2.1 x.2.2) hx rfl))⟩
/- ref06_Mixed -/
def C_ref06_Mixed : Cons := [(115, [], con_ref06_product)]
theorem hC_ref06_Mixed : ConsOk Try.prog C_ref06_Mixed := ConsOk.cons ok_ref06_product <| ConsOk.nil
def w_ref06_Mixed (p0 : CR) (p1 : R3) (K : R3 → Prop) : Prop :=
  (((1000 : Int) ≠ (0 : Int)) ∧
  (K (s_counts_product p0.2.2.2.2.2.2.2.1 p1 (1000 : Int))))
set_option maxHeartbeats 4000000 in
theorem w_ref06_Mixed_eq (p0 : CR) (p1 : R3) (K : R3 → Prop) : tfn F_ref06_Mixed A_ref06_Mixed C_ref06_Mixed P_ref06_Mixed R_ref06_Mixed (p0, p1) K = w_ref06_Mixed p0 p1 K := by kernel_rfl
def s_ref06_Mixed (p0 : CR) (p1 : R3) : R3 :=
  (s_counts_product p0.2.2.2.2.2.2.2.1 p1 (1000 : Int))
abbrev pre_ref06_Mixed (p0 : CR) (p1 : R3) : List Prop := []
set_option maxHeartbeats 4000000 in
theorem d_ref06_Mixed (p0 : CR) (p1 : R3) (K : R3 → Prop) (hp : ∀ p ∈ pre_ref06_Mixed p0 p1, p) (h : K (s_ref06_Mixed p0 p1)) : w_ref06_Mixed p0 p1 K := by
  unfold w_ref06_Mixed
  unfold s_ref06_Mixed at h
  exact ⟨(od rfl), h⟩
abbrev con_ref06_Mixed : Con := ⟨P_ref06_Mixed, R_ref06_Mixed, fun x => pre_ref06_Mixed x.1 x.2, fun x => s_ref06_Mixed x.1 x.2⟩
theorem ok_ref06_Mixed : ConOk Try.prog 70 con_ref06_Mixed := ⟨k_ref06_Mixed, fun x hx => ret_tf (ps := P_ref06_Mixed) (rs := R_ref06_Mixed) (x := x) (y := s_ref06_Mixed x.1 x.2) e_ref06_Mixed hC_ref06_Mixed (tf_of (w_ref06_Mixed_eq x.1 x.2 (fun z => z = s_ref06_Mixed x.1 x.2)) (d_ref06_Mixed x.1 x.2 (fun z => z = s_ref06_Mixed x.1 x.2) hx rfl))⟩
/- ref06_Stripped -/
def C_ref06_Stripped : Cons := [(67, [], con_ref06_Inverse), (115, [], con_ref06_product)]
theorem hC_ref06_Stripped : ConsOk Try.prog C_ref06_Stripped := ConsOk.cons ok_ref06_Inverse <| ConsOk.cons ok_ref06_product <| ConsOk.nil
def w_ref06_Stripped (p0 : CR) (p1 : R3) (K : R3 → Prop) : Prop :=
  ((v_rules p0) ∧
  (((v_inv p0).2 ≠ (0 : Int)) ∧
  (K (s_counts_product (v_inv p0).1 p1 (v_inv p0).2))))
set_option maxHeartbeats 4000000 in
theorem w_ref06_Stripped_eq (p0 : CR) (p1 : R3) (K : R3 → Prop) : tfn F_ref06_Stripped A_ref06_Stripped C_ref06_Stripped P_ref06_Stripped R_ref06_Stripped (p0, p1) K = w_ref06_Stripped p0 p1 K := by kernel_rfl
def s_ref06_Stripped (p0 : CR) (p1 : R3) : R3 :=
  (s_counts_product (v_inv p0).1 p1 (v_inv p0).2)
abbrev pre_ref06_Stripped (p0 : CR) (p1 : R3) : List Prop := [(v_rules p0),
    ((v_inv p0).2 ≠ (0 : Int))]
set_option maxHeartbeats 4000000 in
theorem d_ref06_Stripped (p0 : CR) (p1 : R3) (K : R3 → Prop) (hp : ∀ p ∈ pre_ref06_Stripped p0 p1, p) (h : K (s_ref06_Stripped p0 p1)) : w_ref06_Stripped p0 p1 K := by
  unfold w_ref06_Stripped
  unfold s_ref06_Stripped at h
  obtain ⟨hp0, hp1, _⟩ := conj_of hp
  exact ⟨(hp0), (hp1), h⟩
abbrev con_ref06_Stripped : Con := ⟨P_ref06_Stripped, R_ref06_Stripped, fun x => pre_ref06_Stripped x.1 x.2, fun x => s_ref06_Stripped x.1 x.2⟩
theorem ok_ref06_Stripped : ConOk Try.prog 71 con_ref06_Stripped := ⟨k_ref06_Stripped, fun x hx => ret_tf (ps := P_ref06_Stripped) (rs := R_ref06_Stripped) (x := x) (y := s_ref06_Stripped x.1 x.2) e_ref06_Stripped hC_ref06_Stripped (tf_of (w_ref06_Stripped_eq x.1 x.2 (fun z => z = s_ref06_Stripped x.1 x.2)) (d_ref06_Stripped x.1 x.2 (fun z => z = s_ref06_Stripped x.1 x.2) hx rfl))⟩
/- law06_CountsStripped -/
def C_law06_CountsStripped : Cons := [(14, [], con_law06_awake), (15, [], con_law06_fewKnots), (17, [], con_ref06_CopyRules), (41, [], con_counts_InverseOf), (63, [], con_counts_CheckInverse), (42, [], con_counts_Mixed), (43, [], con_counts_StrippedOf), (65, [], con_counts_ErrorsOf), (23, [], con_ref06_RulesErr), (66, [], con_ref06_CheckInverse), (67, [], con_ref06_Inverse), (68, [], con_ref06_RawErr), (69, [], con_ref06_Errors), (44, [], con_ref06_ValuesErr), (70, [], con_ref06_Mixed), (71, [], con_ref06_Stripped)]
theorem hC_law06_CountsStripped : ConsOk Try.prog C_law06_CountsStripped := ConsOk.cons ok_law06_awake <| ConsOk.cons ok_law06_fewKnots <| ConsOk.cons ok_ref06_CopyRules <| ConsOk.cons ok_counts_InverseOf <| ConsOk.cons ok_counts_CheckInverse <| ConsOk.cons ok_counts_Mixed <| ConsOk.cons ok_counts_StrippedOf <| ConsOk.cons ok_counts_ErrorsOf <| ConsOk.cons ok_ref06_RulesErr <| ConsOk.cons ok_ref06_CheckInverse <| ConsOk.cons ok_ref06_Inverse <| ConsOk.cons ok_ref06_RawErr <| ConsOk.cons ok_ref06_Errors <| ConsOk.cons ok_ref06_ValuesErr <| ConsOk.cons ok_ref06_Mixed <| ConsOk.cons ok_ref06_Stripped <| ConsOk.nil
abbrev q0_law06_CountsStripped (p0 : CR) (p2 : (R3 × (Int × (Int × Int)))) := (cond ((s_counts_CheckRules p0).2 != (0 : Int)) (((0 : Int), ((0 : Int), (0 : Int))), (s_counts_CheckRules p0).2) (cond ((v_rawErr p2.2) != (0 : Int)) (((0 : Int), ((0 : Int), (0 : Int))), (v_rawErr p2.2)) ((v_errs (v_inv p0) p2.2), (0 : Int))))
abbrev q9_law06_CountsStripped (p0 : CR) (p1 : CI) := (cond ((s_counts_CheckRules p0).2 != (0 : Int)) ((0 : Int), (s_counts_CheckRules p0).2) (v_chk p0.2.2.2.2.2.2.2.1 p1))
abbrev q13_law06_CountsStripped (p0 : CR) (p1 : CI) := (cond ((s_counts_InverseOf p0).2 == (s_counts_CheckRules p0).2) ((q9_law06_CountsStripped p0 p1).2 == (s_counts_CheckRules p0).2) false)
abbrev q6_law06_CountsStripped (p0 : CR) (p1 : CI) (p2 : (R3 × (Int × (Int × Int)))) := (cond (q13_law06_CountsStripped p0 p1) ((s_counts_Mixed p0 p2.1).2 == (s_counts_CheckRules p0).2) false)
abbrev q11_law06_CountsStripped (p0 : CR) (p1 : CI) (p2 : (R3 × (Int × (Int × Int)))) := (cond (q6_law06_CountsStripped p0 p1 p2) ((s_counts_StrippedOf p0 p2.1).2 == (s_counts_CheckRules p0).2) false)
abbrev q15_law06_CountsStripped (p0 : CR) (p1 : CI) (p2 : (R3 × (Int × (Int × Int)))) := (cond (q11_law06_CountsStripped p0 p1 p2) ((q0_law06_CountsStripped p0 p2).2 == (s_counts_CheckRules p0).2) false)
abbrev q1_law06_CountsStripped (p0 : CR) (p1 : CI) (p2 : (R3 × (Int × (Int × Int)))) := (cond (q15_law06_CountsStripped p0 p1 p2) (((s_counts_InverseOf p0).1.1.1.1 == (0 : Int)) && (((s_counts_InverseOf p0).1.1.1.2.1 == (0 : Int)) && (((s_counts_InverseOf p0).1.1.1.2.2 == (0 : Int)) && (((s_counts_InverseOf p0).1.1.2.1.1 == (0 : Int)) && (((s_counts_InverseOf p0).1.1.2.1.2.1 == (0 : Int)) && (((s_counts_InverseOf p0).1.1.2.1.2.2 == (0 : Int)) && (((s_counts_InverseOf p0).1.1.2.2.1 == (0 : Int)) && (((s_counts_InverseOf p0).1.1.2.2.2.1 == (0 : Int)) && (((s_counts_InverseOf p0).1.1.2.2.2.2 == (0 : Int)) && (((s_counts_InverseOf p0).1.2 == (0 : Int)) && true)))))))))) false)
abbrev q2_law06_CountsStripped (p0 : CR) := (cond ((s_counts_InverseOf p0).2 != (0 : Int)) true (!(((s_counts_InverseOf p0).1.1.1.1 == (v_inv p0).1.1.1) && (((s_counts_InverseOf p0).1.1.1.2.1 == (v_inv p0).1.1.2.1) && (((s_counts_InverseOf p0).1.1.1.2.2 == (v_inv p0).1.1.2.2) && (((s_counts_InverseOf p0).1.1.2.1.1 == (v_inv p0).1.2.1.1) && (((s_counts_InverseOf p0).1.1.2.1.2.1 == (v_inv p0).1.2.1.2.1) && (((s_counts_InverseOf p0).1.1.2.1.2.2 == (v_inv p0).1.2.1.2.2) && (((s_counts_InverseOf p0).1.1.2.2.1 == (v_inv p0).1.2.2.1) && (((s_counts_InverseOf p0).1.1.2.2.2.1 == (v_inv p0).1.2.2.2.1) && (((s_counts_InverseOf p0).1.1.2.2.2.2 == (v_inv p0).1.2.2.2.2) && (((s_counts_InverseOf p0).1.2 == (v_inv p0).2) && true))))))))))))
abbrev q3_law06_CountsStripped (p0 : CR) (p2 : (R3 × (Int × (Int × Int)))) := (cond ((s_counts_Mixed p0 p2.1).2 == (0 : Int)) (((s_counts_Mixed p0 p2.1).1.1.1 == (s_ref06_Mixed p0 p2.1).1.1) && (((s_counts_Mixed p0 p2.1).1.1.2 == (s_ref06_Mixed p0 p2.1).1.2) && (((s_counts_Mixed p0 p2.1).1.2.1.1 == (s_ref06_Mixed p0 p2.1).2.1.1) && (((s_counts_Mixed p0 p2.1).1.2.1.2 == (s_ref06_Mixed p0 p2.1).2.1.2) && (((s_counts_Mixed p0 p2.1).1.2.2.1 == (s_ref06_Mixed p0 p2.1).2.2.1) && (((s_counts_Mixed p0 p2.1).1.2.2.2 == (s_ref06_Mixed p0 p2.1).2.2.2) && true)))))) false)
abbrev q4_law06_CountsStripped (p0 : CR) (p2 : (R3 × (Int × (Int × Int)))) := (cond ((v_rawErr p2.2) != (0 : Int)) (cond ((q0_law06_CountsStripped p0 p2).2 != (v_rawErr p2.2)) true (!(((q0_law06_CountsStripped p0 p2).1.1 == (0 : Int)) && (((q0_law06_CountsStripped p0 p2).1.2.1 == (0 : Int)) && (((q0_law06_CountsStripped p0 p2).1.2.2 == (0 : Int)) && true))))) false)
abbrev q17_law06_CountsStripped (p0 : CR) (p1 : CI) (p2 : (R3 × (Int × (Int × Int)))) := (cond (q1_law06_CountsStripped p0 p1 p2) ((q9_law06_CountsStripped p0 p1).1 == (0 : Int)) false)
abbrev q5_law06_CountsStripped (p0 : CR) (p1 : CI) (p2 : (R3 × (Int × (Int × Int)))) := (cond (q17_law06_CountsStripped p0 p1 p2) (((s_counts_Mixed p0 p2.1).1.1.1 == (0 : Int)) && (((s_counts_Mixed p0 p2.1).1.1.2 == (0 : Int)) && (((s_counts_Mixed p0 p2.1).1.2.1.1 == (0 : Int)) && (((s_counts_Mixed p0 p2.1).1.2.1.2 == (0 : Int)) && (((s_counts_Mixed p0 p2.1).1.2.2.1 == (0 : Int)) && (((s_counts_Mixed p0 p2.1).1.2.2.2 == (0 : Int)) && true)))))) false)
abbrev q16_law06_CountsStripped (p0 : CR) (p2 : (R3 × (Int × (Int × Int)))) := (cond ((s_counts_Mixed p0 p2.1).2 == (v_vals p2.1)) ((s_counts_StrippedOf p0 p2.1).2 == (v_vals p2.1)) false)
abbrev q7_law06_CountsStripped (p0 : CR) (p2 : (R3 × (Int × (Int × Int)))) := (cond (q16_law06_CountsStripped p0 p2) (((s_counts_Mixed p0 p2.1).1.1.1 == (0 : Int)) && (((s_counts_Mixed p0 p2.1).1.1.2 == (0 : Int)) && (((s_counts_Mixed p0 p2.1).1.2.1.1 == (0 : Int)) && (((s_counts_Mixed p0 p2.1).1.2.1.2 == (0 : Int)) && (((s_counts_Mixed p0 p2.1).1.2.2.1 == (0 : Int)) && (((s_counts_Mixed p0 p2.1).1.2.2.2 == (0 : Int)) && true)))))) false)
abbrev q8_law06_CountsStripped (p0 : CR) (p1 : CI) (p2 : (R3 × (Int × (Int × Int)))) := (cond (q5_law06_CountsStripped p0 p1 p2) (((s_counts_StrippedOf p0 p2.1).1.1.1 == (0 : Int)) && (((s_counts_StrippedOf p0 p2.1).1.1.2 == (0 : Int)) && (((s_counts_StrippedOf p0 p2.1).1.2.1.1 == (0 : Int)) && (((s_counts_StrippedOf p0 p2.1).1.2.1.2 == (0 : Int)) && (((s_counts_StrippedOf p0 p2.1).1.2.2.1 == (0 : Int)) && (((s_counts_StrippedOf p0 p2.1).1.2.2.2 == (0 : Int)) && true)))))) false)
abbrev q20_law06_CountsStripped (p0 : CR) (p2 : (R3 × (Int × (Int × Int)))) := ((!(q4_law06_CountsStripped p0 p2)) && ((v_rawErr p2.2) == (0 : Int)))
abbrev q10_law06_CountsStripped (p0 : CR) (p2 : (R3 × (Int × (Int × Int)))) := ((!(q20_law06_CountsStripped p0 p2)) || ((q0_law06_CountsStripped p0 p2).2 != (0 : Int)))
abbrev q12_law06_CountsStripped (p0 : CR) (p2 : (R3 × (Int × (Int × Int)))) := (cond (q3_law06_CountsStripped p0 p2) ((s_counts_StrippedOf p0 p2.1).2 == (0 : Int)) false)
abbrev q14_law06_CountsStripped (p0 : CR) (p1 : CI) := (cond (q2_law06_CountsStripped p0) true ((q9_law06_CountsStripped p0 p1).2 != (v_chk p0.2.2.2.2.2.2.2.1 p1).2))
abbrev q18_law06_CountsStripped (p0 : CR) (p2 : (R3 × (Int × (Int × Int)))) := (cond (q4_law06_CountsStripped p0 p2) true (cond ((v_rawErr p2.2) == (0 : Int)) (cond ((q0_law06_CountsStripped p0 p2).2 != (0 : Int)) true (!(((q0_law06_CountsStripped p0 p2).1.1 == (v_errs (v_inv p0) p2.2).1) && (((q0_law06_CountsStripped p0 p2).1.2.1 == (v_errs (v_inv p0) p2.2).2.1) && (((q0_law06_CountsStripped p0 p2).1.2.2 == (v_errs (v_inv p0) p2.2).2.2) && true))))) false))
abbrev q19_law06_CountsStripped (p0 : CR) (p2 : (R3 × (Int × (Int × Int)))) := ((!((v_rawErr p2.2) != (0 : Int))) || ((q0_law06_CountsStripped p0 p2).2 != (v_rawErr p2.2)))
abbrev q21_law06_CountsStripped (p0 : CR) (p2 : (R3 × (Int × (Int × Int)))) := (((s_counts_Mixed p0 p2.1).2 == (0 : Int)) = ((s_counts_Mixed p0 p2.1).2 == (0 : Int)))
def w_law06_CountsStripped (p0 : CR) (p1 : CI) (p2 : (R3 × (Int × (Int × Int)))) (K : Bool → Prop) : Prop :=
  ((((!(s_law06_awake)) = true) →
  (K false)) ∧
  (((!(s_law06_awake)) = false) →
  ((((!(s_law06_fewKnots p0)) = true) →
    (K true)) ∧
    (((!(s_law06_fewKnots p0)) = false) →
    (((List.length p0.2.2.2.2.2.2.2.2) ≤ 10) ∧
      (((((s_counts_CheckRules p0).2 != (0 : Int)) = false) →
      (v_rules p0)) ∧
      (((List.length p0.2.2.2.2.2.2.2.2) ≤ 10) ∧
      (((List.length p0.2.2.2.2.2.2.2.2) ≤ 10) ∧
      (((List.length p0.2.2.2.2.2.2.2.2) ≤ 10) ∧
      (((((cond ((s_counts_CheckRules p0).2 != (0 : Int)) (s_counts_CheckRules p0).2 (v_vals p2.1)) != (0 : Int)) = false) →
      (v_rules p0)) ∧
      (((List.length p0.2.2.2.2.2.2.2.2) ≤ 10) ∧
      (((((s_counts_CheckRules p0).2 != (0 : Int)) = true) →
      (((((s_counts_InverseOf p0).2 == (s_counts_CheckRules p0).2) = true) →
        (((s_counts_InverseOf p0).2 == (s_counts_CheckRules p0).2) = ((s_counts_InverseOf p0).2 == (s_counts_CheckRules p0).2))) ∧
        (((((s_counts_InverseOf p0).2 == (s_counts_CheckRules p0).2) = true) →
        (((s_counts_InverseOf p0).2 == (s_counts_CheckRules p0).2) = ((s_counts_InverseOf p0).2 == (s_counts_CheckRules p0).2))) ∧
        ((((s_counts_InverseOf p0).2 == (s_counts_CheckRules p0).2) = ((s_counts_InverseOf p0).2 == (s_counts_CheckRules p0).2)) ∧
        ((((q13_law06_CountsStripped p0 p1) = true) →
        ((q13_law06_CountsStripped p0 p1) = (q13_law06_CountsStripped p0 p1))) ∧
        ((((q13_law06_CountsStripped p0 p1) = true) →
        ((q13_law06_CountsStripped p0 p1) = (q13_law06_CountsStripped p0 p1))) ∧
        (((q13_law06_CountsStripped p0 p1) = (q13_law06_CountsStripped p0 p1)) ∧
        ((((q6_law06_CountsStripped p0 p1 p2) = true) →
        ((q6_law06_CountsStripped p0 p1 p2) = (q6_law06_CountsStripped p0 p1 p2))) ∧
        ((((q6_law06_CountsStripped p0 p1 p2) = true) →
        ((q6_law06_CountsStripped p0 p1 p2) = (q6_law06_CountsStripped p0 p1 p2))) ∧
        (((q6_law06_CountsStripped p0 p1 p2) = (q6_law06_CountsStripped p0 p1 p2)) ∧
        ((((q11_law06_CountsStripped p0 p1 p2) = true) →
        ((q11_law06_CountsStripped p0 p1 p2) = (q11_law06_CountsStripped p0 p1 p2))) ∧
        ((((q11_law06_CountsStripped p0 p1 p2) = true) →
        ((q11_law06_CountsStripped p0 p1 p2) = (q11_law06_CountsStripped p0 p1 p2))) ∧
        (((q11_law06_CountsStripped p0 p1 p2) = (q11_law06_CountsStripped p0 p1 p2)) ∧
        ((((q15_law06_CountsStripped p0 p1 p2) = true) →
        ((q15_law06_CountsStripped p0 p1 p2) = (q15_law06_CountsStripped p0 p1 p2))) ∧
        ((((q15_law06_CountsStripped p0 p1 p2) = true) →
        ((q15_law06_CountsStripped p0 p1 p2) = (q15_law06_CountsStripped p0 p1 p2))) ∧
        (((q15_law06_CountsStripped p0 p1 p2) = (q15_law06_CountsStripped p0 p1 p2)) ∧
        ((((q1_law06_CountsStripped p0 p1 p2) = true) →
        ((q1_law06_CountsStripped p0 p1 p2) = (q1_law06_CountsStripped p0 p1 p2))) ∧
        (((q1_law06_CountsStripped p0 p1 p2) = (q1_law06_CountsStripped p0 p1 p2)) ∧
        ((((q17_law06_CountsStripped p0 p1 p2) = true) →
        ((q17_law06_CountsStripped p0 p1 p2) = (q17_law06_CountsStripped p0 p1 p2))) ∧
        ((((q17_law06_CountsStripped p0 p1 p2) = true) →
        ((q17_law06_CountsStripped p0 p1 p2) = (q17_law06_CountsStripped p0 p1 p2))) ∧
        (((q17_law06_CountsStripped p0 p1 p2) = (q17_law06_CountsStripped p0 p1 p2)) ∧
        ((((q5_law06_CountsStripped p0 p1 p2) = true) →
        ((q5_law06_CountsStripped p0 p1 p2) = (q5_law06_CountsStripped p0 p1 p2))) ∧
        ((((q5_law06_CountsStripped p0 p1 p2) = true) →
        ((q5_law06_CountsStripped p0 p1 p2) = (q5_law06_CountsStripped p0 p1 p2))) ∧
        (((q5_law06_CountsStripped p0 p1 p2) = (q5_law06_CountsStripped p0 p1 p2)) ∧
        ((((q8_law06_CountsStripped p0 p1 p2) = true) →
        ((q8_law06_CountsStripped p0 p1 p2) = (q8_law06_CountsStripped p0 p1 p2))) ∧
        ((((q8_law06_CountsStripped p0 p1 p2) = true) →
        ((q8_law06_CountsStripped p0 p1 p2) = (q8_law06_CountsStripped p0 p1 p2))) ∧
        (((q8_law06_CountsStripped p0 p1 p2) = (q8_law06_CountsStripped p0 p1 p2)) ∧
        (K (cond (q8_law06_CountsStripped p0 p1 p2) (((q0_law06_CountsStripped p0 p2).1.1 == (0 : Int)) && (((q0_law06_CountsStripped p0 p2).1.2.1 == (0 : Int)) && (((q0_law06_CountsStripped p0 p2).1.2.2 == (0 : Int)) && true))) false))))))))))))))))))))))))))))) ∧
      ((((s_counts_CheckRules p0).2 != (0 : Int)) = false) →
      (((((s_counts_InverseOf p0).2 != (0 : Int)) = false) →
        (((s_counts_InverseOf p0).2 != (0 : Int)) = ((s_counts_InverseOf p0).2 != (0 : Int)))) ∧
        (((((s_counts_InverseOf p0).2 != (0 : Int)) = false) →
        (v_rules p0)) ∧
        (((((s_counts_InverseOf p0).2 != (0 : Int)) = false) →
        (((s_counts_InverseOf p0).2 != (0 : Int)) = ((s_counts_InverseOf p0).2 != (0 : Int)))) ∧
        (((((s_counts_InverseOf p0).2 != (0 : Int)) = false) →
        (((s_counts_InverseOf p0).2 != (0 : Int)) = ((s_counts_InverseOf p0).2 != (0 : Int)))) ∧
        ((((s_counts_InverseOf p0).2 != (0 : Int)) = ((s_counts_InverseOf p0).2 != (0 : Int))) ∧
        ((((q2_law06_CountsStripped p0) = false) →
        ((q2_law06_CountsStripped p0) = (q2_law06_CountsStripped p0))) ∧
        ((((q2_law06_CountsStripped p0) = false) →
        ((q2_law06_CountsStripped p0) = (q2_law06_CountsStripped p0))) ∧
        (((q2_law06_CountsStripped p0) = (q2_law06_CountsStripped p0)) ∧
        ((((q14_law06_CountsStripped p0 p1) = false) →
        ((q14_law06_CountsStripped p0 p1) = (q14_law06_CountsStripped p0 p1))) ∧
        ((((q14_law06_CountsStripped p0 p1) = false) →
        ((q14_law06_CountsStripped p0 p1) = (q14_law06_CountsStripped p0 p1))) ∧
        (((q14_law06_CountsStripped p0 p1) = (q14_law06_CountsStripped p0 p1)) ∧
        ((((cond (q14_law06_CountsStripped p0 p1) true ((q9_law06_CountsStripped p0 p1).1 != (v_chk p0.2.2.2.2.2.2.2.1 p1).1)) = true) →
        (K false)) ∧
        (((cond (q14_law06_CountsStripped p0 p1) true ((q9_law06_CountsStripped p0 p1).1 != (v_chk p0.2.2.2.2.2.2.2.1 p1).1)) = false) →
        (((((v_rawErr p2.2) != (0 : Int)) = true) →
          (((v_rawErr p2.2) != (0 : Int)) = ((v_rawErr p2.2) != (0 : Int)))) ∧
          (((((v_rawErr p2.2) != (0 : Int)) = true) →
          (((v_rawErr p2.2) != (0 : Int)) = ((v_rawErr p2.2) != (0 : Int)))) ∧
          (((((v_rawErr p2.2) != (0 : Int)) = true) →
          (((v_rawErr p2.2) != (0 : Int)) = ((v_rawErr p2.2) != (0 : Int)))) ∧
          ((((q19_law06_CountsStripped p0 p2) = false) →
          ((q19_law06_CountsStripped p0 p2) = (q19_law06_CountsStripped p0 p2))) ∧
          ((((q19_law06_CountsStripped p0 p2) = false) →
          ((q19_law06_CountsStripped p0 p2) = (q19_law06_CountsStripped p0 p2))) ∧
          (((((v_rawErr p2.2) != (0 : Int)) = true) →
          (((v_rawErr p2.2) != (0 : Int)) = ((v_rawErr p2.2) != (0 : Int)))) ∧
          (((((v_rawErr p2.2) != (0 : Int)) = true) →
          ((q19_law06_CountsStripped p0 p2) = ((q0_law06_CountsStripped p0 p2).2 != (v_rawErr p2.2)))) ∧
          ((((v_rawErr p2.2) != (0 : Int)) = ((v_rawErr p2.2) != (0 : Int))) ∧
          ((((q4_law06_CountsStripped p0 p2) = false) →
          ((q4_law06_CountsStripped p0 p2) = (q4_law06_CountsStripped p0 p2))) ∧
          ((((q4_law06_CountsStripped p0 p2) = false) →
          ((q4_law06_CountsStripped p0 p2) = (q4_law06_CountsStripped p0 p2))) ∧
          ((((q20_law06_CountsStripped p0 p2) = true) →
          ((q20_law06_CountsStripped p0 p2) = (q20_law06_CountsStripped p0 p2))) ∧
          ((((q20_law06_CountsStripped p0 p2) = true) →
          ((q20_law06_CountsStripped p0 p2) = (q20_law06_CountsStripped p0 p2))) ∧
          ((((q10_law06_CountsStripped p0 p2) = false) →
          ((q10_law06_CountsStripped p0 p2) = (q10_law06_CountsStripped p0 p2))) ∧
          ((((q10_law06_CountsStripped p0 p2) = false) →
          ((q10_law06_CountsStripped p0 p2) = (q10_law06_CountsStripped p0 p2))) ∧
          ((((q10_law06_CountsStripped p0 p2) = false) →
          ((q10_law06_CountsStripped p0 p2) = (q10_law06_CountsStripped p0 p2))) ∧
          ((((q10_law06_CountsStripped p0 p2) = false) →
          (v_rules p0)) ∧
          ((((q10_law06_CountsStripped p0 p2) = false) →
          ((q10_law06_CountsStripped p0 p2) = (q10_law06_CountsStripped p0 p2))) ∧
          ((((q10_law06_CountsStripped p0 p2) = false) →
          ((q10_law06_CountsStripped p0 p2) = (q10_law06_CountsStripped p0 p2))) ∧
          ((((q20_law06_CountsStripped p0 p2) = true) →
          ((q20_law06_CountsStripped p0 p2) = (q20_law06_CountsStripped p0 p2))) ∧
          ((((q20_law06_CountsStripped p0 p2) = true) →
          ((q10_law06_CountsStripped p0 p2) = ((q0_law06_CountsStripped p0 p2).2 != (0 : Int)))) ∧
          ((((q4_law06_CountsStripped p0 p2) = false) →
          ((q4_law06_CountsStripped p0 p2) = (q4_law06_CountsStripped p0 p2))) ∧
          ((((q4_law06_CountsStripped p0 p2) = false) →
          ((q20_law06_CountsStripped p0 p2) = ((v_rawErr p2.2) == (0 : Int)))) ∧
          (((q4_law06_CountsStripped p0 p2) = (q4_law06_CountsStripped p0 p2)) ∧
          ((((q18_law06_CountsStripped p0 p2) = true) →
          (K false)) ∧
          (((q18_law06_CountsStripped p0 p2) = false) →
          (((((v_vals p2.1) != (0 : Int)) = true) →
            (((((s_counts_Mixed p0 p2.1).2 == (v_vals p2.1)) = true) →
              (((s_counts_Mixed p0 p2.1).2 == (v_vals p2.1)) = ((s_counts_Mixed p0 p2.1).2 == (v_vals p2.1)))) ∧
              (((((s_counts_Mixed p0 p2.1).2 == (v_vals p2.1)) = true) →
              (((s_counts_Mixed p0 p2.1).2 == (v_vals p2.1)) = ((s_counts_Mixed p0 p2.1).2 == (v_vals p2.1)))) ∧
              ((((s_counts_Mixed p0 p2.1).2 == (v_vals p2.1)) = ((s_counts_Mixed p0 p2.1).2 == (v_vals p2.1))) ∧
              ((((q16_law06_CountsStripped p0 p2) = true) →
              ((q16_law06_CountsStripped p0 p2) = (q16_law06_CountsStripped p0 p2))) ∧
              ((((q16_law06_CountsStripped p0 p2) = true) →
              ((q16_law06_CountsStripped p0 p2) = (q16_law06_CountsStripped p0 p2))) ∧
              (((q16_law06_CountsStripped p0 p2) = (q16_law06_CountsStripped p0 p2)) ∧
              ((((q7_law06_CountsStripped p0 p2) = true) →
              ((q7_law06_CountsStripped p0 p2) = (q7_law06_CountsStripped p0 p2))) ∧
              ((((q7_law06_CountsStripped p0 p2) = true) →
              ((q7_law06_CountsStripped p0 p2) = (q7_law06_CountsStripped p0 p2))) ∧
              (((q7_law06_CountsStripped p0 p2) = (q7_law06_CountsStripped p0 p2)) ∧
              (K (cond (q7_law06_CountsStripped p0 p2) (((s_counts_StrippedOf p0 p2.1).1.1.1 == (0 : Int)) && (((s_counts_StrippedOf p0 p2.1).1.1.2 == (0 : Int)) && (((s_counts_StrippedOf p0 p2.1).1.2.1.1 == (0 : Int)) && (((s_counts_StrippedOf p0 p2.1).1.2.1.2 == (0 : Int)) && (((s_counts_StrippedOf p0 p2.1).1.2.2.1 == (0 : Int)) && (((s_counts_StrippedOf p0 p2.1).1.2.2.2 == (0 : Int)) && true)))))) false)))))))))))) ∧
            ((((v_vals p2.1) != (0 : Int)) = false) →
            (((((s_counts_Mixed p0 p2.1).2 == (0 : Int)) = true) →
              (q21_law06_CountsStripped p0 p2)) ∧
              (((((s_counts_Mixed p0 p2.1).2 == (0 : Int)) = true) →
              (q21_law06_CountsStripped p0 p2)) ∧
              (((((s_counts_Mixed p0 p2.1).2 == (0 : Int)) = true) →
              (q21_law06_CountsStripped p0 p2)) ∧
              (((((s_counts_Mixed p0 p2.1).2 == (0 : Int)) = true) →
              (q21_law06_CountsStripped p0 p2)) ∧
              (((((s_counts_Mixed p0 p2.1).2 == (0 : Int)) = true) →
              (q21_law06_CountsStripped p0 p2)) ∧
              ((q21_law06_CountsStripped p0 p2) ∧
              ((((q3_law06_CountsStripped p0 p2) = true) →
              ((q3_law06_CountsStripped p0 p2) = (q3_law06_CountsStripped p0 p2))) ∧
              (((q3_law06_CountsStripped p0 p2) = (q3_law06_CountsStripped p0 p2)) ∧
              ((((q12_law06_CountsStripped p0 p2) = true) →
              ((q12_law06_CountsStripped p0 p2) = (q12_law06_CountsStripped p0 p2))) ∧
              ((((q12_law06_CountsStripped p0 p2) = true) →
              ((q12_law06_CountsStripped p0 p2) = (q12_law06_CountsStripped p0 p2))) ∧
              ((((q12_law06_CountsStripped p0 p2) = true) →
              ((q12_law06_CountsStripped p0 p2) = (q12_law06_CountsStripped p0 p2))) ∧
              ((((q12_law06_CountsStripped p0 p2) = true) →
              (v_rules p0)) ∧
              ((((q12_law06_CountsStripped p0 p2) = true) →
              ((v_inv p0).2 ≠ (0 : Int))) ∧
              ((((q12_law06_CountsStripped p0 p2) = true) →
              ((q12_law06_CountsStripped p0 p2) = (q12_law06_CountsStripped p0 p2))) ∧
              ((((q12_law06_CountsStripped p0 p2) = true) →
              ((q12_law06_CountsStripped p0 p2) = (q12_law06_CountsStripped p0 p2))) ∧
              (((q12_law06_CountsStripped p0 p2) = (q12_law06_CountsStripped p0 p2)) ∧
              (K (cond (q12_law06_CountsStripped p0 p2) (((s_counts_StrippedOf p0 p2.1).1.1.1 == (s_ref06_Stripped p0 p2.1).1.1) && (((s_counts_StrippedOf p0 p2.1).1.1.2 == (s_ref06_Stripped p0 p2.1).1.2) && (((s_counts_StrippedOf p0 p2.1).1.2.1.1 == (s_ref06_Stripped p0 p2.1).2.1.1) && (((s_counts_StrippedOf p0 p2.1).1.2.1.2 == (s_ref06_Stripped p0 p2.1).2.1.2) && (((s_counts_StrippedOf p0 p2.1).1.2.2.1 == (s_ref06_Stripped p0 p2.1).2.2.1) && (((s_counts_StrippedOf p0 p2.1).1.2.2.2 == (s_ref06_Stripped p0 p2.1).2.2.2) && true)))))) false)))))))))))))))))))))))))))))))))))))))))))))))))))))))))))))))))))))))
set_option maxHeartbeats 4000000 in
theorem w_law06_CountsStripped_eq (p0 : CR) (p1 : CI) (p2 : (R3 × (Int × (Int × Int)))) (K : Bool → Prop) : tfn F_law06_CountsStripped A_law06_CountsStripped C_law06_CountsStripped P_law06_CountsStripped R_law06_CountsStripped (p0, p1, p2) K = w_law06_CountsStripped p0 p1 p2 K := by kernel_rfl
def s_law06_CountsStripped (p0 : CR) (p1 : CI) (p2 : (R3 × (Int × (Int × Int)))) : Bool :=
  (cond (!(s_law06_fewKnots p0)) true
    (cond ((s_counts_CheckRules p0).2 != (0 : Int)) (cond (cond (cond (cond (cond (cond (cond (cond (cond ((s_counts_InverseOf p0).2 == (s_counts_CheckRules p0).2) ((cond ((s_counts_CheckRules p0).2 != (0 : Int)) ((0 : Int), (s_counts_CheckRules p0).2) (v_chk p0.2.2.2.2.2.2.2.1 p1)).2 == (s_counts_CheckRules p0).2) false) ((s_counts_Mixed p0 p2.1).2 == (s_counts_CheckRules p0).2) false) ((s_counts_StrippedOf p0 p2.1).2 == (s_counts_CheckRules p0).2) false) ((cond ((s_counts_CheckRules p0).2 != (0 : Int)) (((0 : Int), ((0 : Int), (0 : Int))), (s_counts_CheckRules p0).2) (cond ((v_rawErr p2.2) != (0 : Int)) (((0 : Int), ((0 : Int), (0 : Int))), (v_rawErr p2.2)) ((v_errs (v_inv p0) p2.2), (0 : Int)))).2 == (s_counts_CheckRules p0).2) false) (((s_counts_InverseOf p0).1.1.1.1 == (0 : Int)) && (((s_counts_InverseOf p0).1.1.1.2.1 == (0 : Int)) && (((s_counts_InverseOf p0).1.1.1.2.2 == (0 : Int)) && (((s_counts_InverseOf p0).1.1.2.1.1 == (0 : Int)) && (((s_counts_InverseOf p0).1.1.2.1.2.1 == (0 : Int)) && (((s_counts_InverseOf p0).1.1.2.1.2.2 == (0 : Int)) && (((s_counts_InverseOf p0).1.1.2.2.1 == (0 : Int)) && (((s_counts_InverseOf p0).1.1.2.2.2.1 == (0 : Int)) && (((s_counts_InverseOf p0).1.1.2.2.2.2 == (0 : Int)) && (((s_counts_InverseOf p0).1.2 == (0 : Int)) && true)))))))))) false) ((cond ((s_counts_CheckRules p0).2 != (0 : Int)) ((0 : Int), (s_counts_CheckRules p0).2) (v_chk p0.2.2.2.2.2.2.2.1 p1)).1 == (0 : Int)) false) (((s_counts_Mixed p0 p2.1).1.1.1 == (0 : Int)) && (((s_counts_Mixed p0 p2.1).1.1.2 == (0 : Int)) && (((s_counts_Mixed p0 p2.1).1.2.1.1 == (0 : Int)) && (((s_counts_Mixed p0 p2.1).1.2.1.2 == (0 : Int)) && (((s_counts_Mixed p0 p2.1).1.2.2.1 == (0 : Int)) && (((s_counts_Mixed p0 p2.1).1.2.2.2 == (0 : Int)) && true)))))) false) (((s_counts_StrippedOf p0 p2.1).1.1.1 == (0 : Int)) && (((s_counts_StrippedOf p0 p2.1).1.1.2 == (0 : Int)) && (((s_counts_StrippedOf p0 p2.1).1.2.1.1 == (0 : Int)) && (((s_counts_StrippedOf p0 p2.1).1.2.1.2 == (0 : Int)) && (((s_counts_StrippedOf p0 p2.1).1.2.2.1 == (0 : Int)) && (((s_counts_StrippedOf p0 p2.1).1.2.2.2 == (0 : Int)) && true)))))) false) (((cond ((s_counts_CheckRules p0).2 != (0 : Int)) (((0 : Int), ((0 : Int), (0 : Int))), (s_counts_CheckRules p0).2) (cond ((v_rawErr p2.2) != (0 : Int)) (((0 : Int), ((0 : Int), (0 : Int))), (v_rawErr p2.2)) ((v_errs (v_inv p0) p2.2), (0 : Int)))).1.1 == (0 : Int)) && (((cond ((s_counts_CheckRules p0).2 != (0 : Int)) (((0 : Int), ((0 : Int), (0 : Int))), (s_counts_CheckRules p0).2) (cond ((v_rawErr p2.2) != (0 : Int)) (((0 : Int), ((0 : Int), (0 : Int))), (v_rawErr p2.2)) ((v_errs (v_inv p0) p2.2), (0 : Int)))).1.2.1 == (0 : Int)) && (((cond ((s_counts_CheckRules p0).2 != (0 : Int)) (((0 : Int), ((0 : Int), (0 : Int))), (s_counts_CheckRules p0).2) (cond ((v_rawErr p2.2) != (0 : Int)) (((0 : Int), ((0 : Int), (0 : Int))), (v_rawErr p2.2)) ((v_errs (v_inv p0) p2.2), (0 : Int)))).1.2.2 == (0 : Int)) && true))) false)
    (cond (cond (cond (cond ((s_counts_InverseOf p0).2 != (0 : Int)) true (!(((s_counts_InverseOf p0).1.1.1.1 == (v_inv p0).1.1.1) && (((s_counts_InverseOf p0).1.1.1.2.1 == (v_inv p0).1.1.2.1) && (((s_counts_InverseOf p0).1.1.1.2.2 == (v_inv p0).1.1.2.2) && (((s_counts_InverseOf p0).1.1.2.1.1 == (v_inv p0).1.2.1.1) && (((s_counts_InverseOf p0).1.1.2.1.2.1 == (v_inv p0).1.2.1.2.1) && (((s_counts_InverseOf p0).1.1.2.1.2.2 == (v_inv p0).1.2.1.2.2) && (((s_counts_InverseOf p0).1.1.2.2.1 == (v_inv p0).1.2.2.1) && (((s_counts_InverseOf p0).1.1.2.2.2.1 == (v_inv p0).1.2.2.2.1) && (((s_counts_InverseOf p0).1.1.2.2.2.2 == (v_inv p0).1.2.2.2.2) && (((s_counts_InverseOf p0).1.2 == (v_inv p0).2) && true)))))))))))) true ((cond ((s_counts_CheckRules p0).2 != (0 : Int)) ((0 : Int), (s_counts_CheckRules p0).2) (v_chk p0.2.2.2.2.2.2.2.1 p1)).2 != (v_chk p0.2.2.2.2.2.2.2.1 p1).2)) true ((cond ((s_counts_CheckRules p0).2 != (0 : Int)) ((0 : Int), (s_counts_CheckRules p0).2) (v_chk p0.2.2.2.2.2.2.2.1 p1)).1 != (v_chk p0.2.2.2.2.2.2.2.1 p1).1)) false
    (cond (cond (cond ((v_rawErr p2.2) != (0 : Int)) (cond ((cond ((s_counts_CheckRules p0).2 != (0 : Int)) (((0 : Int), ((0 : Int), (0 : Int))), (s_counts_CheckRules p0).2) (cond ((v_rawErr p2.2) != (0 : Int)) (((0 : Int), ((0 : Int), (0 : Int))), (v_rawErr p2.2)) ((v_errs (v_inv p0) p2.2), (0 : Int)))).2 != (v_rawErr p2.2)) true (!(((cond ((s_counts_CheckRules p0).2 != (0 : Int)) (((0 : Int), ((0 : Int), (0 : Int))), (s_counts_CheckRules p0).2) (cond ((v_rawErr p2.2) != (0 : Int)) (((0 : Int), ((0 : Int), (0 : Int))), (v_rawErr p2.2)) ((v_errs (v_inv p0) p2.2), (0 : Int)))).1.1 == (0 : Int)) && (((cond ((s_counts_CheckRules p0).2 != (0 : Int)) (((0 : Int), ((0 : Int), (0 : Int))), (s_counts_CheckRules p0).2) (cond ((v_rawErr p2.2) != (0 : Int)) (((0 : Int), ((0 : Int), (0 : Int))), (v_rawErr p2.2)) ((v_errs (v_inv p0) p2.2), (0 : Int)))).1.2.1 == (0 : Int)) && (((cond ((s_counts_CheckRules p0).2 != (0 : Int)) (((0 : Int), ((0 : Int), (0 : Int))), (s_counts_CheckRules p0).2) (cond ((v_rawErr p2.2) != (0 : Int)) (((0 : Int), ((0 : Int), (0 : Int))), (v_rawErr p2.2)) ((v_errs (v_inv p0) p2.2), (0 : Int)))).1.2.2 == (0 : Int)) && true))))) false) true (cond ((v_rawErr p2.2) == (0 : Int)) (cond ((cond ((s_counts_CheckRules p0).2 != (0 : Int)) (((0 : Int), ((0 : Int), (0 : Int))), (s_counts_CheckRules p0).2) (cond ((v_rawErr p2.2) != (0 : Int)) (((0 : Int), ((0 : Int), (0 : Int))), (v_rawErr p2.2)) ((v_errs (v_inv p0) p2.2), (0 : Int)))).2 != (0 : Int)) true (!(((cond ((s_counts_CheckRules p0).2 != (0 : Int)) (((0 : Int), ((0 : Int), (0 : Int))), (s_counts_CheckRules p0).2) (cond ((v_rawErr p2.2) != (0 : Int)) (((0 : Int), ((0 : Int), (0 : Int))), (v_rawErr p2.2)) ((v_errs (v_inv p0) p2.2), (0 : Int)))).1.1 == (v_errs (v_inv p0) p2.2).1) && (((cond ((s_counts_CheckRules p0).2 != (0 : Int)) (((0 : Int), ((0 : Int), (0 : Int))), (s_counts_CheckRules p0).2) (cond ((v_rawErr p2.2) != (0 : Int)) (((0 : Int), ((0 : Int), (0 : Int))), (v_rawErr p2.2)) ((v_errs (v_inv p0) p2.2), (0 : Int)))).1.2.1 == (v_errs (v_inv p0) p2.2).2.1) && (((cond ((s_counts_CheckRules p0).2 != (0 : Int)) (((0 : Int), ((0 : Int), (0 : Int))), (s_counts_CheckRules p0).2) (cond ((v_rawErr p2.2) != (0 : Int)) (((0 : Int), ((0 : Int), (0 : Int))), (v_rawErr p2.2)) ((v_errs (v_inv p0) p2.2), (0 : Int)))).1.2.2 == (v_errs (v_inv p0) p2.2).2.2) && true))))) false)) false
    (cond ((v_vals p2.1) != (0 : Int)) (cond (cond (cond ((s_counts_Mixed p0 p2.1).2 == (v_vals p2.1)) ((s_counts_StrippedOf p0 p2.1).2 == (v_vals p2.1)) false) (((s_counts_Mixed p0 p2.1).1.1.1 == (0 : Int)) && (((s_counts_Mixed p0 p2.1).1.1.2 == (0 : Int)) && (((s_counts_Mixed p0 p2.1).1.2.1.1 == (0 : Int)) && (((s_counts_Mixed p0 p2.1).1.2.1.2 == (0 : Int)) && (((s_counts_Mixed p0 p2.1).1.2.2.1 == (0 : Int)) && (((s_counts_Mixed p0 p2.1).1.2.2.2 == (0 : Int)) && true)))))) false) (((s_counts_StrippedOf p0 p2.1).1.1.1 == (0 : Int)) && (((s_counts_StrippedOf p0 p2.1).1.1.2 == (0 : Int)) && (((s_counts_StrippedOf p0 p2.1).1.2.1.1 == (0 : Int)) && (((s_counts_StrippedOf p0 p2.1).1.2.1.2 == (0 : Int)) && (((s_counts_StrippedOf p0 p2.1).1.2.2.1 == (0 : Int)) && (((s_counts_StrippedOf p0 p2.1).1.2.2.2 == (0 : Int)) && true)))))) false)
    (cond (cond (cond ((s_counts_Mixed p0 p2.1).2 == (0 : Int)) (((s_counts_Mixed p0 p2.1).1.1.1 == (s_ref06_Mixed p0 p2.1).1.1) && (((s_counts_Mixed p0 p2.1).1.1.2 == (s_ref06_Mixed p0 p2.1).1.2) && (((s_counts_Mixed p0 p2.1).1.2.1.1 == (s_ref06_Mixed p0 p2.1).2.1.1) && (((s_counts_Mixed p0 p2.1).1.2.1.2 == (s_ref06_Mixed p0 p2.1).2.1.2) && (((s_counts_Mixed p0 p2.1).1.2.2.1 == (s_ref06_Mixed p0 p2.1).2.2.1) && (((s_counts_Mixed p0 p2.1).1.2.2.2 == (s_ref06_Mixed p0 p2.1).2.2.2) && true)))))) false) ((s_counts_StrippedOf p0 p2.1).2 == (0 : Int)) false) (((s_counts_StrippedOf p0 p2.1).1.1.1 == (s_ref06_Stripped p0 p2.1).1.1) && (((s_counts_StrippedOf p0 p2.1).1.1.2 == (s_ref06_Stripped p0 p2.1).1.2) && (((s_counts_StrippedOf p0 p2.1).1.2.1.1 == (s_ref06_Stripped p0 p2.1).2.1.1) && (((s_counts_StrippedOf p0 p2.1).1.2.1.2 == (s_ref06_Stripped p0 p2.1).2.1.2) && (((s_counts_StrippedOf p0 p2.1).1.2.2.1 == (s_ref06_Stripped p0 p2.1).2.2.1) && (((s_counts_StrippedOf p0 p2.1).1.2.2.2 == (s_ref06_Stripped p0 p2.1).2.2.2) && true)))))) false))))))
abbrev pre_law06_CountsStripped (p0 : CR) (p1 : CI) (p2 : (R3 × (Int × (Int × Int)))) : List Prop := [(((!(s_law06_fewKnots p0)) = false) → ((List.length p0.2.2.2.2.2.2.2.2) ≤ 10)),
    (((!(s_law06_fewKnots p0)) = false) → ((((s_counts_CheckRules p0).2 != (0 : Int)) = false) → (v_rules p0))),
    (((!(s_law06_fewKnots p0)) = false) → ((((cond ((s_counts_CheckRules p0).2 != (0 : Int)) (s_counts_CheckRules p0).2 (v_vals p2.1)) != (0 : Int)) = false) → (v_rules p0))),
    (((!(s_law06_fewKnots p0)) = false) → ((((s_counts_CheckRules p0).2 != (0 : Int)) = false) → ((((s_counts_InverseOf p0).2 != (0 : Int)) = false) → (v_rules p0)))),
    (((!(s_law06_fewKnots p0)) = false) → ((((s_counts_CheckRules p0).2 != (0 : Int)) = false) → (((cond (cond (cond ((s_counts_InverseOf p0).2 != (0 : Int)) true (!(((s_counts_InverseOf p0).1.1.1.1 == (v_inv p0).1.1.1) && (((s_counts_InverseOf p0).1.1.1.2.1 == (v_inv p0).1.1.2.1) && (((s_counts_InverseOf p0).1.1.1.2.2 == (v_inv p0).1.1.2.2) && (((s_counts_InverseOf p0).1.1.2.1.1 == (v_inv p0).1.2.1.1) && (((s_counts_InverseOf p0).1.1.2.1.2.1 == (v_inv p0).1.2.1.2.1) && (((s_counts_InverseOf p0).1.1.2.1.2.2 == (v_inv p0).1.2.1.2.2) && (((s_counts_InverseOf p0).1.1.2.2.1 == (v_inv p0).1.2.2.1) && (((s_counts_InverseOf p0).1.1.2.2.2.1 == (v_inv p0).1.2.2.2.1) && (((s_counts_InverseOf p0).1.1.2.2.2.2 == (v_inv p0).1.2.2.2.2) && (((s_counts_InverseOf p0).1.2 == (v_inv p0).2) && true)))))))))))) true ((cond ((s_counts_CheckRules p0).2 != (0 : Int)) ((0 : Int), (s_counts_CheckRules p0).2) (v_chk p0.2.2.2.2.2.2.2.1 p1)).2 != (v_chk p0.2.2.2.2.2.2.2.1 p1).2)) true ((cond ((s_counts_CheckRules p0).2 != (0 : Int)) ((0 : Int), (s_counts_CheckRules p0).2) (v_chk p0.2.2.2.2.2.2.2.1 p1)).1 != (v_chk p0.2.2.2.2.2.2.2.1 p1).1)) = false) → ((((v_rawErr p2.2) != (0 : Int)) = true) → (((!((v_rawErr p2.2) != (0 : Int))) || ((cond ((s_counts_CheckRules p0).2 != (0 : Int)) (((0 : Int), ((0 : Int), (0 : Int))), (s_counts_CheckRules p0).2) (cond ((v_rawErr p2.2) != (0 : Int)) (((0 : Int), ((0 : Int), (0 : Int))), (v_rawErr p2.2)) ((v_errs (v_inv p0) p2.2), (0 : Int)))).2 != (v_rawErr p2.2))) = ((cond ((s_counts_CheckRules p0).2 != (0 : Int)) (((0 : Int), ((0 : Int), (0 : Int))), (s_counts_CheckRules p0).2) (cond ((v_rawErr p2.2) != (0 : Int)) (((0 : Int), ((0 : Int), (0 : Int))), (v_rawErr p2.2)) ((v_errs (v_inv p0) p2.2), (0 : Int)))).2 != (v_rawErr p2.2))))))),
    (((!(s_law06_fewKnots p0)) = false) → ((((s_counts_CheckRules p0).2 != (0 : Int)) = false) → (((cond (cond (cond ((s_counts_InverseOf p0).2 != (0 : Int)) true (!(((s_counts_InverseOf p0).1.1.1.1 == (v_inv p0).1.1.1) && (((s_counts_InverseOf p0).1.1.1.2.1 == (v_inv p0).1.1.2.1) && (((s_counts_InverseOf p0).1.1.1.2.2 == (v_inv p0).1.1.2.2) && (((s_counts_InverseOf p0).1.1.2.1.1 == (v_inv p0).1.2.1.1) && (((s_counts_InverseOf p0).1.1.2.1.2.1 == (v_inv p0).1.2.1.2.1) && (((s_counts_InverseOf p0).1.1.2.1.2.2 == (v_inv p0).1.2.1.2.2) && (((s_counts_InverseOf p0).1.1.2.2.1 == (v_inv p0).1.2.2.1) && (((s_counts_InverseOf p0).1.1.2.2.2.1 == (v_inv p0).1.2.2.2.1) && (((s_counts_InverseOf p0).1.1.2.2.2.2 == (v_inv p0).1.2.2.2.2) && (((s_counts_InverseOf p0).1.2 == (v_inv p0).2) && true)))))))))))) true ((cond ((s_counts_CheckRules p0).2 != (0 : Int)) ((0 : Int), (s_counts_CheckRules p0).2) (v_chk p0.2.2.2.2.2.2.2.1 p1)).2 != (v_chk p0.2.2.2.2.2.2.2.1 p1).2)) true ((cond ((s_counts_CheckRules p0).2 != (0 : Int)) ((0 : Int), (s_counts_CheckRules p0).2) (v_chk p0.2.2.2.2.2.2.2.1 p1)).1 != (v_chk p0.2.2.2.2.2.2.2.1 p1).1)) = false) → ((((!((!(cond ((v_rawErr p2.2) != (0 : Int)) (cond ((cond ((s_counts_CheckRules p0).2 != (0 : Int)) (((0 : Int), ((0 : Int), (0 : Int))), (s_counts_CheckRules p0).2) (cond ((v_rawErr p2.2) != (0 : Int)) (((0 : Int), ((0 : Int), (0 : Int))), (v_rawErr p2.2)) ((v_errs (v_inv p0) p2.2), (0 : Int)))).2 != (v_rawErr p2.2)) true (!(((cond ((s_counts_CheckRules p0).2 != (0 : Int)) (((0 : Int), ((0 : Int), (0 : Int))), (s_counts_CheckRules p0).2) (cond ((v_rawErr p2.2) != (0 : Int)) (((0 : Int), ((0 : Int), (0 : Int))), (v_rawErr p2.2)) ((v_errs (v_inv p0) p2.2), (0 : Int)))).1.1 == (0 : Int)) && (((cond ((s_counts_CheckRules p0).2 != (0 : Int)) (((0 : Int), ((0 : Int), (0 : Int))), (s_counts_CheckRules p0).2) (cond ((v_rawErr p2.2) != (0 : Int)) (((0 : Int), ((0 : Int), (0 : Int))), (v_rawErr p2.2)) ((v_errs (v_inv p0) p2.2), (0 : Int)))).1.2.1 == (0 : Int)) && (((cond ((s_counts_CheckRules p0).2 != (0 : Int)) (((0 : Int), ((0 : Int), (0 : Int))), (s_counts_CheckRules p0).2) (cond ((v_rawErr p2.2) != (0 : Int)) (((0 : Int), ((0 : Int), (0 : Int))), (v_rawErr p2.2)) ((v_errs (v_inv p0) p2.2), (0 : Int)))).1.2.2 == (0 : Int)) && true))))) false)) && ((v_rawErr p2.2) == (0 : Int)))) || ((cond ((s_counts_CheckRules p0).2 != (0 : Int)) (((0 : Int), ((0 : Int), (0 : Int))), (s_counts_CheckRules p0).2) (cond ((v_rawErr p2.2) != (0 : Int)) (((0 : Int), ((0 : Int), (0 : Int))), (v_rawErr p2.2)) ((v_errs (v_inv p0) p2.2), (0 : Int)))).2 != (0 : Int))) = false) → (v_rules p0))))),
    (((!(s_law06_fewKnots p0)) = false) → ((((s_counts_CheckRules p0).2 != (0 : Int)) = false) → (((cond (cond (cond ((s_counts_InverseOf p0).2 != (0 : Int)) true (!(((s_counts_InverseOf p0).1.1.1.1 == (v_inv p0).1.1.1) && (((s_counts_InverseOf p0).1.1.1.2.1 == (v_inv p0).1.1.2.1) && (((s_counts_InverseOf p0).1.1.1.2.2 == (v_inv p0).1.1.2.2) && (((s_counts_InverseOf p0).1.1.2.1.1 == (v_inv p0).1.2.1.1) && (((s_counts_InverseOf p0).1.1.2.1.2.1 == (v_inv p0).1.2.1.2.1) && (((s_counts_InverseOf p0).1.1.2.1.2.2 == (v_inv p0).1.2.1.2.2) && (((s_counts_InverseOf p0).1.1.2.2.1 == (v_inv p0).1.2.2.1) && (((s_counts_InverseOf p0).1.1.2.2.2.1 == (v_inv p0).1.2.2.2.1) && (((s_counts_InverseOf p0).1.1.2.2.2.2 == (v_inv p0).1.2.2.2.2) && (((s_counts_InverseOf p0).1.2 == (v_inv p0).2) && true)))))))))))) true ((cond ((s_counts_CheckRules p0).2 != (0 : Int)) ((0 : Int), (s_counts_CheckRules p0).2) (v_chk p0.2.2.2.2.2.2.2.1 p1)).2 != (v_chk p0.2.2.2.2.2.2.2.1 p1).2)) true ((cond ((s_counts_CheckRules p0).2 != (0 : Int)) ((0 : Int), (s_counts_CheckRules p0).2) (v_chk p0.2.2.2.2.2.2.2.1 p1)).1 != (v_chk p0.2.2.2.2.2.2.2.1 p1).1)) = false) → ((((!(cond ((v_rawErr p2.2) != (0 : Int)) (cond ((cond ((s_counts_CheckRules p0).2 != (0 : Int)) (((0 : Int), ((0 : Int), (0 : Int))), (s_counts_CheckRules p0).2) (cond ((v_rawErr p2.2) != (0 : Int)) (((0 : Int), ((0 : Int), (0 : Int))), (v_rawErr p2.2)) ((v_errs (v_inv p0) p2.2), (0 : Int)))).2 != (v_rawErr p2.2)) true (!(((cond ((s_counts_CheckRules p0).2 != (0 : Int)) (((0 : Int), ((0 : Int), (0 : Int))), (s_counts_CheckRules p0).2) (cond ((v_rawErr p2.2) != (0 : Int)) (((0 : Int), ((0 : Int), (0 : Int))), (v_rawErr p2.2)) ((v_errs (v_inv p0) p2.2), (0 : Int)))).1.1 == (0 : Int)) && (((cond ((s_counts_CheckRules p0).2 != (0 : Int)) (((0 : Int), ((0 : Int), (0 : Int))), (s_counts_CheckRules p0).2) (cond ((v_rawErr p2.2) != (0 : Int)) (((0 : Int), ((0 : Int), (0 : Int))), (v_rawErr p2.2)) ((v_errs (v_inv p0) p2.2), (0 : Int)))).1.2.1 == (0 : Int)) && (((cond ((s_counts_CheckRules p0).2 != (0 : Int)) (((0 : Int), ((0 : Int), (0 : Int))), (s_counts_CheckRules p0).2) (cond ((v_rawErr p2.2) != (0 : Int)) (((0 : Int), ((0 : Int), (0 : Int))), (v_rawErr p2.2)) ((v_errs (v_inv p0) p2.2), (0 : Int)))).1.2.2 == (0 : Int)) && true))))) false)) && ((v_rawErr p2.2) == (0 : Int))) = true) → (((!((!(cond ((v_rawErr p2.2) != (0 : Int)) (cond ((cond ((s_counts_CheckRules p0).2 != (0 : Int)) (((0 : Int), ((0 : Int), (0 : Int))), (s_counts_CheckRules p0).2) (cond ((v_rawErr p2.2) != (0 : Int)) (((0 : Int), ((0 : Int), (0 : Int))), (v_rawErr p2.2)) ((v_errs (v_inv p0) p2.2), (0 : Int)))).2 != (v_rawErr p2.2)) true (!(((cond ((s_counts_CheckRules p0).2 != (0 : Int)) (((0 : Int), ((0 : Int), (0 : Int))), (s_counts_CheckRules p0).2) (cond ((v_rawErr p2.2) != (0 : Int)) (((0 : Int), ((0 : Int), (0 : Int))), (v_rawErr p2.2)) ((v_errs (v_inv p0) p2.2), (0 : Int)))).1.1 == (0 : Int)) && (((cond ((s_counts_CheckRules p0).2 != (0 : Int)) (((0 : Int), ((0 : Int), (0 : Int))), (s_counts_CheckRules p0).2) (cond ((v_rawErr p2.2) != (0 : Int)) (((0 : Int), ((0 : Int), (0 : Int))), (v_rawErr p2.2)) ((v_errs (v_inv p0) p2.2), (0 : Int)))).1.2.1 == (0 : Int)) && (((cond ((s_counts_CheckRules p0).2 != (0 : Int)) (((0 : Int), ((0 : Int), (0 : Int))), (s_counts_CheckRules p0).2) (cond ((v_rawErr p2.2) != (0 : Int)) (((0 : Int), ((0 : Int), (0 : Int))), (v_rawErr p2.2)) ((v_errs (v_inv p0) p2.2), (0 : Int)))).1.2.2 == (0 : Int)) && true))))) false)) && ((v_rawErr p2.2) == (0 : Int)))) || ((cond ((s_counts_CheckRules p0).2 != (0 : Int)) (((0 : Int), ((0 : Int), (0 : Int))), (s_counts_CheckRules p0).2) (cond ((v_rawErr p2.2) != (0 : Int)) (((0 : Int), ((0 : Int), (0 : Int))), (v_rawErr p2.2)) ((v_errs (v_inv p0) p2.2), (0 : Int)))).2 != (0 : Int))) = ((cond ((s_counts_CheckRules p0).2 != (0 : Int)) (((0 : Int), ((0 : Int), (0 : Int))), (s_counts_CheckRules p0).2) (cond ((v_rawErr p2.2) != (0 : Int)) (((0 : Int), ((0 : Int), (0 : Int))), (v_rawErr p2.2)) ((v_errs (v_inv p0) p2.2), (0 : Int)))).2 != (0 : Int))))))),
    (((!(s_law06_fewKnots p0)) = false) → ((((s_counts_CheckRules p0).2 != (0 : Int)) = false) → (((cond (cond (cond ((s_counts_InverseOf p0).2 != (0 : Int)) true (!(((s_counts_InverseOf p0).1.1.1.1 == (v_inv p0).1.1.1) && (((s_counts_InverseOf p0).1.1.1.2.1 == (v_inv p0).1.1.2.1) && (((s_counts_InverseOf p0).1.1.1.2.2 == (v_inv p0).1.1.2.2) && (((s_counts_InverseOf p0).1.1.2.1.1 == (v_inv p0).1.2.1.1) && (((s_counts_InverseOf p0).1.1.2.1.2.1 == (v_inv p0).1.2.1.2.1) && (((s_counts_InverseOf p0).1.1.2.1.2.2 == (v_inv p0).1.2.1.2.2) && (((s_counts_InverseOf p0).1.1.2.2.1 == (v_inv p0).1.2.2.1) && (((s_counts_InverseOf p0).1.1.2.2.2.1 == (v_inv p0).1.2.2.2.1) && (((s_counts_InverseOf p0).1.1.2.2.2.2 == (v_inv p0).1.2.2.2.2) && (((s_counts_InverseOf p0).1.2 == (v_inv p0).2) && true)))))))))))) true ((cond ((s_counts_CheckRules p0).2 != (0 : Int)) ((0 : Int), (s_counts_CheckRules p0).2) (v_chk p0.2.2.2.2.2.2.2.1 p1)).2 != (v_chk p0.2.2.2.2.2.2.2.1 p1).2)) true ((cond ((s_counts_CheckRules p0).2 != (0 : Int)) ((0 : Int), (s_counts_CheckRules p0).2) (v_chk p0.2.2.2.2.2.2.2.1 p1)).1 != (v_chk p0.2.2.2.2.2.2.2.1 p1).1)) = false) → (((cond ((v_rawErr p2.2) != (0 : Int)) (cond ((cond ((s_counts_CheckRules p0).2 != (0 : Int)) (((0 : Int), ((0 : Int), (0 : Int))), (s_counts_CheckRules p0).2) (cond ((v_rawErr p2.2) != (0 : Int)) (((0 : Int), ((0 : Int), (0 : Int))), (v_rawErr p2.2)) ((v_errs (v_inv p0) p2.2), (0 : Int)))).2 != (v_rawErr p2.2)) true (!(((cond ((s_counts_CheckRules p0).2 != (0 : Int)) (((0 : Int), ((0 : Int), (0 : Int))), (s_counts_CheckRules p0).2) (cond ((v_rawErr p2.2) != (0 : Int)) (((0 : Int), ((0 : Int), (0 : Int))), (v_rawErr p2.2)) ((v_errs (v_inv p0) p2.2), (0 : Int)))).1.1 == (0 : Int)) && (((cond ((s_counts_CheckRules p0).2 != (0 : Int)) (((0 : Int), ((0 : Int), (0 : Int))), (s_counts_CheckRules p0).2) (cond ((v_rawErr p2.2) != (0 : Int)) (((0 : Int), ((0 : Int), (0 : Int))), (v_rawErr p2.2)) ((v_errs (v_inv p0) p2.2), (0 : Int)))).1.2.1 == (0 : Int)) && (((cond ((s_counts_CheckRules p0).2 != (0 : Int)) (((0 : Int), ((0 : Int), (0 : Int))), (s_counts_CheckRules p0).2) (cond ((v_rawErr p2.2) != (0 : Int)) (((0 : Int), ((0 : Int), (0 : Int))), (v_rawErr p2.2)) ((v_errs (v_inv p0) p2.2), (0 : Int)))).1.2.2 == (0 : Int)) && true))))) false) = false) → (((!(cond ((v_rawErr p2.2) != (0 : Int)) (cond ((cond ((s_counts_CheckRules p0).2 != (0 : Int)) (((0 : Int), ((0 : Int), (0 : Int))), (s_counts_CheckRules p0).2) (cond ((v_rawErr p2.2) != (0 : Int)) (((0 : Int), ((0 : Int), (0 : Int))), (v_rawErr p2.2)) ((v_errs (v_inv p0) p2.2), (0 : Int)))).2 != (v_rawErr p2.2)) true (!(((cond ((s_counts_CheckRules p0).2 != (0 : Int)) (((0 : Int), ((0 : Int), (0 : Int))), (s_counts_CheckRules p0).2) (cond ((v_rawErr p2.2) != (0 : Int)) (((0 : Int), ((0 : Int), (0 : Int))), (v_rawErr p2.2)) ((v_errs (v_inv p0) p2.2), (0 : Int)))).1.1 == (0 : Int)) && (((cond ((s_counts_CheckRules p0).2 != (0 : Int)) (((0 : Int), ((0 : Int), (0 : Int))), (s_counts_CheckRules p0).2) (cond ((v_rawErr p2.2) != (0 : Int)) (((0 : Int), ((0 : Int), (0 : Int))), (v_rawErr p2.2)) ((v_errs (v_inv p0) p2.2), (0 : Int)))).1.2.1 == (0 : Int)) && (((cond ((s_counts_CheckRules p0).2 != (0 : Int)) (((0 : Int), ((0 : Int), (0 : Int))), (s_counts_CheckRules p0).2) (cond ((v_rawErr p2.2) != (0 : Int)) (((0 : Int), ((0 : Int), (0 : Int))), (v_rawErr p2.2)) ((v_errs (v_inv p0) p2.2), (0 : Int)))).1.2.2 == (0 : Int)) && true))))) false)) && ((v_rawErr p2.2) == (0 : Int))) = ((v_rawErr p2.2) == (0 : Int))))))),
    (((!(s_law06_fewKnots p0)) = false) → ((((s_counts_CheckRules p0).2 != (0 : Int)) = false) → (((cond (cond (cond ((s_counts_InverseOf p0).2 != (0 : Int)) true (!(((s_counts_InverseOf p0).1.1.1.1 == (v_inv p0).1.1.1) && (((s_counts_InverseOf p0).1.1.1.2.1 == (v_inv p0).1.1.2.1) && (((s_counts_InverseOf p0).1.1.1.2.2 == (v_inv p0).1.1.2.2) && (((s_counts_InverseOf p0).1.1.2.1.1 == (v_inv p0).1.2.1.1) && (((s_counts_InverseOf p0).1.1.2.1.2.1 == (v_inv p0).1.2.1.2.1) && (((s_counts_InverseOf p0).1.1.2.1.2.2 == (v_inv p0).1.2.1.2.2) && (((s_counts_InverseOf p0).1.1.2.2.1 == (v_inv p0).1.2.2.1) && (((s_counts_InverseOf p0).1.1.2.2.2.1 == (v_inv p0).1.2.2.2.1) && (((s_counts_InverseOf p0).1.1.2.2.2.2 == (v_inv p0).1.2.2.2.2) && (((s_counts_InverseOf p0).1.2 == (v_inv p0).2) && true)))))))))))) true ((cond ((s_counts_CheckRules p0).2 != (0 : Int)) ((0 : Int), (s_counts_CheckRules p0).2) (v_chk p0.2.2.2.2.2.2.2.1 p1)).2 != (v_chk p0.2.2.2.2.2.2.2.1 p1).2)) true ((cond ((s_counts_CheckRules p0).2 != (0 : Int)) ((0 : Int), (s_counts_CheckRules p0).2) (v_chk p0.2.2.2.2.2.2.2.1 p1)).1 != (v_chk p0.2.2.2.2.2.2.2.1 p1).1)) = false) → (((cond (cond ((v_rawErr p2.2) != (0 : Int)) (cond ((cond ((s_counts_CheckRules p0).2 != (0 : Int)) (((0 : Int), ((0 : Int), (0 : Int))), (s_counts_CheckRules p0).2) (cond ((v_rawErr p2.2) != (0 : Int)) (((0 : Int), ((0 : Int), (0 : Int))), (v_rawErr p2.2)) ((v_errs (v_inv p0) p2.2), (0 : Int)))).2 != (v_rawErr p2.2)) true (!(((cond ((s_counts_CheckRules p0).2 != (0 : Int)) (((0 : Int), ((0 : Int), (0 : Int))), (s_counts_CheckRules p0).2) (cond ((v_rawErr p2.2) != (0 : Int)) (((0 : Int), ((0 : Int), (0 : Int))), (v_rawErr p2.2)) ((v_errs (v_inv p0) p2.2), (0 : Int)))).1.1 == (0 : Int)) && (((cond ((s_counts_CheckRules p0).2 != (0 : Int)) (((0 : Int), ((0 : Int), (0 : Int))), (s_counts_CheckRules p0).2) (cond ((v_rawErr p2.2) != (0 : Int)) (((0 : Int), ((0 : Int), (0 : Int))), (v_rawErr p2.2)) ((v_errs (v_inv p0) p2.2), (0 : Int)))).1.2.1 == (0 : Int)) && (((cond ((s_counts_CheckRules p0).2 != (0 : Int)) (((0 : Int), ((0 : Int), (0 : Int))), (s_counts_CheckRules p0).2) (cond ((v_rawErr p2.2) != (0 : Int)) (((0 : Int), ((0 : Int), (0 : Int))), (v_rawErr p2.2)) ((v_errs (v_inv p0) p2.2), (0 : Int)))).1.2.2 == (0 : Int)) && true))))) false) true (cond ((v_rawErr p2.2) == (0 : Int)) (cond ((cond ((s_counts_CheckRules p0).2 != (0 : Int)) (((0 : Int), ((0 : Int), (0 : Int))), (s_counts_CheckRules p0).2) (cond ((v_rawErr p2.2) != (0 : Int)) (((0 : Int), ((0 : Int), (0 : Int))), (v_rawErr p2.2)) ((v_errs (v_inv p0) p2.2), (0 : Int)))).2 != (0 : Int)) true (!(((cond ((s_counts_CheckRules p0).2 != (0 : Int)) (((0 : Int), ((0 : Int), (0 : Int))), (s_counts_CheckRules p0).2) (cond ((v_rawErr p2.2) != (0 : Int)) (((0 : Int), ((0 : Int), (0 : Int))), (v_rawErr p2.2)) ((v_errs (v_inv p0) p2.2), (0 : Int)))).1.1 == (v_errs (v_inv p0) p2.2).1) && (((cond ((s_counts_CheckRules p0).2 != (0 : Int)) (((0 : Int), ((0 : Int), (0 : Int))), (s_counts_CheckRules p0).2) (cond ((v_rawErr p2.2) != (0 : Int)) (((0 : Int), ((0 : Int), (0 : Int))), (v_rawErr p2.2)) ((v_errs (v_inv p0) p2.2), (0 : Int)))).1.2.1 == (v_errs (v_inv p0) p2.2).2.1) && (((cond ((s_counts_CheckRules p0).2 != (0 : Int)) (((0 : Int), ((0 : Int), (0 : Int))), (s_counts_CheckRules p0).2) (cond ((v_rawErr p2.2) != (0 : Int)) (((0 : Int), ((0 : Int), (0 : Int))), (v_rawErr p2.2)) ((v_errs (v_inv p0) p2.2), (0 : Int)))).1.2.2 == (v_errs (v_inv p0) p2.2).2.2) && true))))) false)) = false) → ((((v_vals p2.1) != (0 : Int)) = false) → (((cond (cond ((s_counts_Mixed p0 p2.1).2 == (0 : Int)) (((s_counts_Mixed p0 p2.1).1.1.1 == (s_ref06_Mixed p0 p2.1).1.1) && (((s_counts_Mixed p0 p2.1).1.1.2 == (s_ref06_Mixed p0 p2.1).1.2) && (((s_counts_Mixed p0 p2.1).1.2.1.1 == (s_ref06_Mixed p0 p2.1).2.1.1) && (((s_counts_Mixed p0 p2.1).1.2.1.2 == (s_ref06_Mixed p0 p2.1).2.1.2) && (((s_counts_Mixed p0 p2.1).1.2.2.1 == (s_ref06_Mixed p0 p2.1).2.2.1) && (((s_counts_Mixed p0 p2.1).1.2.2.2 == (s_ref06_Mixed p0 p2.1).2.2.2) && true)))))) false) ((s_counts_StrippedOf p0 p2.1).2 == (0 : Int)) false) = true) → (v_rules p0))))))),
    (((!(s_law06_fewKnots p0)) = false) → ((((s_counts_CheckRules p0).2 != (0 : Int)) = false) → (((cond (cond (cond ((s_counts_InverseOf p0).2 != (0 : Int)) true (!(((s_counts_InverseOf p0).1.1.1.1 == (v_inv p0).1.1.1) && (((s_counts_InverseOf p0).1.1.1.2.1 == (v_inv p0).1.1.2.1) && (((s_counts_InverseOf p0).1.1.1.2.2 == (v_inv p0).1.1.2.2) && (((s_counts_InverseOf p0).1.1.2.1.1 == (v_inv p0).1.2.1.1) && (((s_counts_InverseOf p0).1.1.2.1.2.1 == (v_inv p0).1.2.1.2.1) && (((s_counts_InverseOf p0).1.1.2.1.2.2 == (v_inv p0).1.2.1.2.2) && (((s_counts_InverseOf p0).1.1.2.2.1 == (v_inv p0).1.2.2.1) && (((s_counts_InverseOf p0).1.1.2.2.2.1 == (v_inv p0).1.2.2.2.1) && (((s_counts_InverseOf p0).1.1.2.2.2.2 == (v_inv p0).1.2.2.2.2) && (((s_counts_InverseOf p0).1.2 == (v_inv p0).2) && true)))))))))))) true ((cond ((s_counts_CheckRules p0).2 != (0 : Int)) ((0 : Int), (s_counts_CheckRules p0).2) (v_chk p0.2.2.2.2.2.2.2.1 p1)).2 != (v_chk p0.2.2.2.2.2.2.2.1 p1).2)) true ((cond ((s_counts_CheckRules p0).2 != (0 : Int)) ((0 : Int), (s_counts_CheckRules p0).2) (v_chk p0.2.2.2.2.2.2.2.1 p1)).1 != (v_chk p0.2.2.2.2.2.2.2.1 p1).1)) = false) → (((cond (cond ((v_rawErr p2.2) != (0 : Int)) (cond ((cond ((s_counts_CheckRules p0).2 != (0 : Int)) (((0 : Int), ((0 : Int), (0 : Int))), (s_counts_CheckRules p0).2) (cond ((v_rawErr p2.2) != (0 : Int)) (((0 : Int), ((0 : Int), (0 : Int))), (v_rawErr p2.2)) ((v_errs (v_inv p0) p2.2), (0 : Int)))).2 != (v_rawErr p2.2)) true (!(((cond ((s_counts_CheckRules p0).2 != (0 : Int)) (((0 : Int), ((0 : Int), (0 : Int))), (s_counts_CheckRules p0).2) (cond ((v_rawErr p2.2) != (0 : Int)) (((0 : Int), ((0 : Int), (0 : Int))), (v_rawErr p2.2)) ((v_errs (v_inv p0) p2.2), (0 : Int)))).1.1 == (0 : Int)) && (((cond ((s_counts_CheckRules p0).2 != (0 : Int)) (((0 : Int), ((0 : Int), (0 : Int))), (s_counts_CheckRules p0).2) (cond ((v_rawErr p2.2) != (0 : Int)) (((0 : Int), ((0 : Int), (0 : Int))), (v_rawErr p2.2)) ((v_errs (v_inv p0) p2.2), (0 : Int)))).1.2.1 == (0 : Int)) && (((cond ((s_counts_CheckRules p0).2 != (0 : Int)) (((0 : Int), ((0 : Int), (0 : Int))), (s_counts_CheckRules p0).2) (cond ((v_rawErr p2.2) != (0 : Int)) (((0 : Int), ((0 : Int), (0 : Int))), (v_rawErr p2.2)) ((v_errs (v_inv p0) p2.2), (0 : Int)))).1.2.2 == (0 : Int)) && true))))) false) true (cond ((v_rawErr p2.2) == (0 : Int)) (cond ((cond ((s_counts_CheckRules p0).2 != (0 : Int)) (((0 : Int), ((0 : Int), (0 : Int))), (s_counts_CheckRules p0).2) (cond ((v_rawErr p2.2) != (0 : Int)) (((0 : Int), ((0 : Int), (0 : Int))), (v_rawErr p2.2)) ((v_errs (v_inv p0) p2.2), (0 : Int)))).2 != (0 : Int)) true (!(((cond ((s_counts_CheckRules p0).2 != (0 : Int)) (((0 : Int), ((0 : Int), (0 : Int))), (s_counts_CheckRules p0).2) (cond ((v_rawErr p2.2) != (0 : Int)) (((0 : Int), ((0 : Int), (0 : Int))), (v_rawErr p2.2)) ((v_errs (v_inv p0) p2.2), (0 : Int)))).1.1 == (v_errs (v_inv p0) p2.2).1) && (((cond ((s_counts_CheckRules p0).2 != (0 : Int)) (((0 : Int), ((0 : Int), (0 : Int))), (s_counts_CheckRules p0).2) (cond ((v_rawErr p2.2) != (0 : Int)) (((0 : Int), ((0 : Int), (0 : Int))), (v_rawErr p2.2)) ((v_errs (v_inv p0) p2.2), (0 : Int)))).1.2.1 == (v_errs (v_inv p0) p2.2).2.1) && (((cond ((s_counts_CheckRules p0).2 != (0 : Int)) (((0 : Int), ((0 : Int), (0 : Int))), (s_counts_CheckRules p0).2) (cond ((v_rawErr p2.2) != (0 : Int)) (((0 : Int), ((0 : Int), (0 : Int))), (v_rawErr p2.2)) ((v_errs (v_inv p0) p2.2), (0 : Int)))).1.2.2 == (v_errs (v_inv p0) p2.2).2.2) && true))))) false)) = false) → ((((v_vals p2.1) != (0 : Int)) = false) → (((cond (cond ((s_counts_Mixed p0 p2.1).2 == (0 : Int)) (((s_counts_Mixed p0 p2.1).1.1.1 == (s_ref06_Mixed p0 p2.1).1.1) && (((s_counts_Mixed p0 p2.1).1.1.2 == (s_ref06_Mixed p0 p2.1).1.2) && (((s_counts_Mixed p0 p2.1).1.2.1.1 == (s_ref06_Mixed p0 p2.1).2.1.1) && (((s_counts_Mixed p0 p2.1).1.2.1.2 == (s_ref06_Mixed p0 p2.1).2.1.2) && (((s_counts_Mixed p0 p2.1).1.2.2.1 == (s_ref06_Mixed p0 p2.1).2.2.1) && (((s_counts_Mixed p0 p2.1).1.2.2.2 == (s_ref06_Mixed p0 p2.1).2.2.2) && true)))))) false) ((s_counts_StrippedOf p0 p2.1).2 == (0 : Int)) false) = true) → ((v_inv p0).2 ≠ (0 : Int))))))))]
set_option maxHeartbeats 4000000 in
theorem d_law06_CountsStripped (p0 : CR) (p1 : CI) (p2 : (R3 × (Int × (Int × Int)))) (K : Bool → Prop) (hp : ∀ p ∈ pre_law06_CountsStripped p0 p1 p2, p) (h : K (s_law06_CountsStripped p0 p1 p2)) : w_law06_CountsStripped p0 p1 p2 K := by
  unfold w_law06_CountsStripped
  unfold s_law06_CountsStripped at h
  obtain ⟨hp0, hp1, hp2, hp3, hp4, hp5, hp6, hp7, hp8, hp9, _⟩ := conj_of hp
  exact ⟨nof, fun _ => (br' h (fun e0 h => h)
    (fun e0 h => ⟨(hp0 e0), (hp1 e0), (hp0 e0), (hp0 e0), (hp0 e0), (hp2 e0), (hp0 e0), (br' h (fun e1 h => ⟨rf, rf, rfl, rf, rf, rfl, rf, rf, rfl, rf, rf, rfl, rf, rf, rfl, rf, rfl, rf, rf, rfl, rf, rf, rfl, rf, rf, rfl, h⟩)
    (fun e1 h => ⟨rf, (hp3 e0 e1), rf, rf, rfl, rf, rf, rfl, rf, rf, rfl, (br' h (fun e2 h => h)
    (fun e2 h => ⟨rf, rf, rf, rf, rf, rf, (hp4 e0 e1 e2), rfl, rf, rf, rf, rf, rf, rf, rf, (hp5 e0 e1 e2), rf, rf, rf, (hp6 e0 e1 e2), rf, (hp7 e0 e1 e2), rfl, (br' h (fun e3 h => h)
    (fun e3 h => (br' h (fun e4 h => ⟨rf, rf, rfl, rf, rf, rfl, rf, rf, rfl, h⟩)
    (fun e4 h => ⟨rf, rf, rf, rf, rf, rfl, rf, rfl, rf, rf, rf, (hp8 e0 e1 e2 e3 e4), (hp9 e0 e1 e2 e3 e4), rf, rf, rfl, h⟩))))⟩))⟩))⟩))⟩
abbrev con_law06_CountsStripped : Con := ⟨P_law06_CountsStripped, R_law06_CountsStripped, fun x => pre_law06_CountsStripped x.1 x.2.1 x.2.2, fun x => s_law06_CountsStripped x.1 x.2.1 x.2.2⟩
theorem ok_law06_CountsStripped : ConOk Try.prog 13 con_law06_CountsStripped := ⟨k_law06_CountsStripped, fun x hx => ret_tf (ps := P_law06_CountsStripped) (rs := R_law06_CountsStripped) (x := x) (y := s_law06_CountsStripped x.1 x.2.1 x.2.2) e_law06_CountsStripped hC_law06_CountsStripped (tf_of (w_law06_CountsStripped_eq x.1 x.2.1 x.2.2 (fun z => z = s_law06_CountsStripped x.1 x.2.1 x.2.2)) (d_law06_CountsStripped x.1 x.2.1 x.2.2 (fun z => z = s_law06_CountsStripped x.1 x.2.1 x.2.2) hx rfl))⟩
end Go.Proofs.Ytonjnpefnbnohaa
