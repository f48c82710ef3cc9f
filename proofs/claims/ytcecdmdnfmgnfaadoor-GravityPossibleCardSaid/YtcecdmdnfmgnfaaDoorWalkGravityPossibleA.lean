/- What the functions that GravityPossible reaches compute: contracts, each function once. No condition. -/
import Derived.Test.YtcecdmdnfmgnfaaDoorLayB
import Derived.Test.YtcecdmdnfmgnfaaDoorAwGGravityPossible
import Derived.KernelRfl
namespace Go.Proofs.YtcecdmdnfmgnfaaDoor
open Go Go.Mx
set_option maxRecDepth 100000
abbrev wi (n : Int) : Int := IntKind.i64.wrap n
abbrev zz0 : Int := 0
abbrev zz1 : Int := 1
abbrev zz2 : Int := 2
abbrev zz3 : Int := 3
theorem od {p : Prop} [Decidable p] (h : decide p = true) : p := of_decide_eq_true h
theorem nof {p : Prop} (h : false = true) : p := Bool.noConfusion h
theorem rf {p : Prop} {α : Sort _} {a : α} (_ : p) : a = a := rfl
/-- Ranges, and ties: from, to, difference. -/
abbrev GR : Type := Int × Int
abbrev GT : Type := Int × Int × Int × Int
/- gravity_within -/
def C_gravity_within : Cons := []
theorem hC_gravity_within : ConsOk Tryd.prog C_gravity_within := ConsOk.nil
def w_gravity_within (p0 : Int) (p1 : Int) (p2 : Int) (K : Bool → Prop) : Prop :=
  ((((decide (p1 ≤ p0)) = true) →
 ((decide (p1 ≤ p0)) = (decide (p1 ≤ p0)))) ∧
 ((((decide (p1 ≤ p0)) = true) →
 ((decide (p1 ≤ p0)) = (decide (p1 ≤ p0)))) ∧
 (((decide (p1 ≤ p0)) = (decide (p1 ≤ p0))) ∧
 (K (cond (decide (p1 ≤ p0)) (decide (p0 ≤ p2)) false)))))
set_option maxHeartbeats 4000000 in
theorem w_gravity_within_eq (p0 : Int) (p1 : Int) (p2 : Int) (K : Bool → Prop) : tfn F_gravity_within A_gravity_within C_gravity_within P_gravity_within R_gravity_within (p0, p1, p2) K = w_gravity_within p0 p1 p2 K := by kernel_rfl
def s_gravity_within (p0 : Int) (p1 : Int) (p2 : Int) : Bool :=
 (cond (decide (p1 ≤ p0)) (decide (p0 ≤ p2)) false)
abbrev pre_gravity_within (p0 : Int) (p1 : Int) (p2 : Int) : List Prop := []
set_option maxHeartbeats 4000000 in
theorem d_gravity_within (p0 : Int) (p1 : Int) (p2 : Int) (K : Bool → Prop) (hp : ∀ p ∈ pre_gravity_within p0 p1 p2, p) (h : K (s_gravity_within p0 p1 p2)) : w_gravity_within p0 p1 p2 K := by
 unfold w_gravity_within
 unfold s_gravity_within at h
 exact ⟨rf, rf, rfl, h⟩
abbrev con_gravity_within : Con := ⟨P_gravity_within, R_gravity_within, fun x => pre_gravity_within x.1 x.2.1 x.2.2, fun x => s_gravity_within x.1 x.2.1 x.2.2⟩
theorem ok_gravity_within : ConOk Tryd.prog 94 con_gravity_within := ⟨k_gravity_within, fun x hx => ret_tf (ps := P_gravity_within) (rs := R_gravity_within) (x := x) (y := s_gravity_within x.1 x.2.1 x.2.2) e_gravity_within hC_gravity_within (tf_of (w_gravity_within_eq x.1 x.2.1 x.2.2 (fun z => z = s_gravity_within x.1 x.2.1 x.2.2)) (d_gravity_within x.1 x.2.1 x.2.2 (fun z => z = s_gravity_within x.1 x.2.1 x.2.2) hx rfl))⟩
theorem tx_within {n lo hi : Int} : s_gravity_within n lo hi = true ↔ lo ≤ n ∧ n ≤ hi := by unfold s_gravity_within; simp
/- gravity_isSized -/
def C_gravity_isSized : Cons := [(94, [], con_gravity_within)]
theorem hC_gravity_isSized : ConsOk Tryd.prog C_gravity_isSized := ConsOk.cons ok_gravity_within <| ConsOk.nil
def w_gravity_isSized (p0 : Int) (p1 : Int) (K : Bool → Prop) : Prop :=
  (K (s_gravity_within p0 (IntKind.i64.wrap ((0 : Int) - p1)) p1))
set_option maxHeartbeats 4000000 in
theorem w_gravity_isSized_eq (p0 : Int) (p1 : Int) (K : Bool → Prop) : tfn F_gravity_isSized A_gravity_isSized C_gravity_isSized P_gravity_isSized R_gravity_isSized (p0, p1) K = w_gravity_isSized p0 p1 K := by kernel_rfl
def s_gravity_isSized (p0 : Int) (p1 : Int) : Bool :=
 (s_gravity_within p0 (IntKind.i64.wrap ((0 : Int) - p1)) p1)
abbrev pre_gravity_isSized (p0 : Int) (p1 : Int) : List Prop := []
set_option maxHeartbeats 4000000 in
theorem d_gravity_isSized (p0 : Int) (p1 : Int) (K : Bool → Prop) (hp : ∀ p ∈ pre_gravity_isSized p0 p1, p) (h : K (s_gravity_isSized p0 p1)) : w_gravity_isSized p0 p1 K := by
 unfold w_gravity_isSized
 unfold s_gravity_isSized at h
 exact h
abbrev con_gravity_isSized : Con := ⟨P_gravity_isSized, R_gravity_isSized, fun x => pre_gravity_isSized x.1 x.2, fun x => s_gravity_isSized x.1 x.2⟩
theorem ok_gravity_isSized : ConOk Tryd.prog 93 con_gravity_isSized := ⟨k_gravity_isSized, fun x hx => ret_tf (ps := P_gravity_isSized) (rs := R_gravity_isSized) (x := x) (y := s_gravity_isSized x.1 x.2) e_gravity_isSized hC_gravity_isSized (tf_of (w_gravity_isSized_eq x.1 x.2 (fun z => z = s_gravity_isSized x.1 x.2)) (d_gravity_isSized x.1 x.2 (fun z => z = s_gravity_isSized x.1 x.2) hx rfl))⟩
/- gravity_unless -/
def C_gravity_unless : Cons := []
theorem hC_gravity_unless : ConsOk Tryd.prog C_gravity_unless := ConsOk.nil
def w_gravity_unless (p0 : Bool) (p1 : Int) (K : Int → Prop) : Prop :=
  (((p0 = true) →
 (K (0 : Int))) ∧
 ((p0 = false) →
 (K p1)))
set_option maxHeartbeats 4000000 in
theorem w_gravity_unless_eq (p0 : Bool) (p1 : Int) (K : Int → Prop) : tfn F_gravity_unless A_gravity_unless C_gravity_unless P_gravity_unless R_gravity_unless (p0, p1) K = w_gravity_unless p0 p1 K := by kernel_rfl
def s_gravity_unless (p0 : Bool) (p1 : Int) : Int :=
 (cond p0 (0 : Int)
  p1)
abbrev pre_gravity_unless (p0 : Bool) (p1 : Int) : List Prop := []
set_option maxHeartbeats 4000000 in
theorem d_gravity_unless (p0 : Bool) (p1 : Int) (K : Int → Prop) (hp : ∀ p ∈ pre_gravity_unless p0 p1, p) (h : K (s_gravity_unless p0 p1)) : w_gravity_unless p0 p1 K := by
 unfold w_gravity_unless
 unfold s_gravity_unless at h
 exact (br' h (fun e0 h => h)
  (fun e0 h => h))
abbrev con_gravity_unless : Con := ⟨P_gravity_unless, R_gravity_unless, fun x => pre_gravity_unless x.1 x.2, fun x => s_gravity_unless x.1 x.2⟩
theorem ok_gravity_unless : ConOk Tryd.prog 89 con_gravity_unless := ⟨k_gravity_unless, fun x hx => ret_tf (ps := P_gravity_unless) (rs := R_gravity_unless) (x := x) (y := s_gravity_unless x.1 x.2) e_gravity_unless hC_gravity_unless (tf_of (w_gravity_unless_eq x.1 x.2 (fun z => z = s_gravity_unless x.1 x.2)) (d_gravity_unless x.1 x.2 (fun z => z = s_gravity_unless x.1 x.2) hx rfl))⟩
theorem tx_unless0' {a : Bool} {x : Int} (hx : x ≠ 0) (h : s_gravity_unless a x = 0) : a = true := by
 cases a
 ·exact (hx h).elim
 ·rfl
/- gravity_first -/
def C_gravity_first : Cons := []
theorem hC_gravity_first : ConsOk Tryd.prog C_gravity_first := ConsOk.nil
def w_gravity_first (p0 : (List Int)) (K : Int → Prop) : Prop :=
  (∃ n0, (loopP (fun (y1 : Int) k2 =>
  ((((decide (y1 < (((List.length p0) : Nat) : Int))) = true) →
  (((0 : Int) ≤ y1) ∧
   ((y1 < (((List.length p0) : Nat) : Int)) ∧
   (((((List.getD p0 (Int.toNat y1) (0 : Int)) != (0 : Int)) = true) →
   (K (List.getD p0 (Int.toNat y1) (0 : Int)))) ∧
   ((((List.getD p0 (Int.toNat y1) (0 : Int)) != (0 : Int)) = false) →
   (k2 (IntKind.i64.wrap (y1 + (1 : Int))))))))) ∧
  (((decide (y1 < (((List.length p0) : Nat) : Int))) = false) →
  (K (0 : Int))))) n0 (0 : Int)))
set_option maxHeartbeats 4000000 in
theorem w_gravity_first_eq (p0 : (List Int)) (K : Int → Prop) : tfn F_gravity_first A_gravity_first C_gravity_first P_gravity_first R_gravity_first p0 K = w_gravity_first p0 K := by kernel_rfl
def st_gravity_first_0 (p0 : (List Int)) (y0 : Int) : Int ⊕ Int :=
 (cond (decide (y0 < (((List.length p0) : Nat) : Int))) (cond ((List.getD p0 (Int.toNat y0) (0 : Int)) != (0 : Int)) (Sum.inr (List.getD p0 (Int.toNat y0) (0 : Int)))
  (Sum.inl (IntKind.i64.wrap (y0 + (1 : Int)))))
  (Sum.inr (0 : Int)))
abbrev sp_gravity_first_0 (p0 : (List Int)) (y0 : Int) : List Prop := [(((decide (y0 < (((List.length p0) : Nat) : Int))) = true) → ((0 : Int) ≤ y0)),
  (((decide (y0 < (((List.length p0) : Nat) : Int))) = true) → (y0 < (((List.length p0) : Nat) : Int)))]
def s_gravity_first (p0 : (List Int)) : Int :=
 (lpv (0 : Int) (st_gravity_first_0 p0) (0 : Int))
abbrev pre_gravity_first (p0 : (List Int)) : List Prop := [(OkL (st_gravity_first_0 p0) (sp_gravity_first_0 p0) (0 : Int))]
set_option maxHeartbeats 4000000 in
theorem d_gravity_first (p0 : (List Int)) (K : Int → Prop) (hp : ∀ p ∈ pre_gravity_first p0, p) (h : K (s_gravity_first p0)) : w_gravity_first p0 K := by
 unfold w_gravity_first
 unfold s_gravity_first at h
 obtain ⟨hp0, _⟩ := conj_of hp
 exact (loop_gen (hp0) h (fun y0 k0 hp h => by
 unfold st_gravity_first_0 at h; obtain ⟨hp0, hp1, _⟩ := conj_of hp
 exact (br' h (fun e1 h => ⟨(hp0 e1), (hp1 e1), (br' h (fun e2 h => h)
  (fun e2 h => h))⟩)
  (fun e1 h => h))))
theorem l_gravity_first_0 (p0 : List Int) (hl : lenOk p0) : OkL (st_gravity_first_0 p0) (sp_gravity_first_0 p0) 0 ∧ lpv (0 : Int) (st_gravity_first_0 p0) 0 = v_scan (fun _ x => cond (x != 0) (some x) none) (0 : Int) 0 p0 := by
 refine scan_is p0 0 (fun _ x => cond (x != 0) (some x) none) (0 : Int) hl ?_ ?_
 ·refine ⟨by simp only [sp_gravity_first_0, List.forall_mem_cons, decide_eq_true_eq]; simp, by simp [st_gravity_first_0]⟩
 ·intro j hj
  have hj' : (j : Int) < p0.length := by omega
  refine ⟨by simp only [sp_gravity_first_0, List.forall_mem_cons, decide_eq_true_eq, Int.toNat_natCast]; simp <;> omega, ?_⟩
  simp only [st_gravity_first_0, hj', decide_true, Int.toNat_natCast, cond_true, wrap_nat (show (j : Int) ≤ 9223372036854775806 by unfold lenOk at hl; omega)]
  generalize p0.getD j 0 = x
  cases (x != 0) <;> rfl
abbrev t_gravity_first (p0 : List Int) : Int := v_first p0
abbrev qre_gravity_first (p0 : List Int) : List Prop := [lenOk p0]
theorem pp_gravity_first (p0 : List Int) (hq : ∀ p ∈ qre_gravity_first p0, p) : ∀ p ∈ pre_gravity_first p0, p := by
 simp only [pre_gravity_first, List.forall_mem_cons]
 exact ⟨(l_gravity_first_0 p0 (conj_of hq).1).1, by simp⟩
theorem tt_gravity_first (p0 : List Int) (hq : ∀ p ∈ qre_gravity_first p0, p) : s_gravity_first p0 = t_gravity_first p0 := by
 exact (l_gravity_first_0 p0 (conj_of hq).1).2.trans (v_first_scan p0 0)

abbrev con_gravity_first : Con := ⟨P_gravity_first, R_gravity_first, fun x => qre_gravity_first x, fun x => t_gravity_first x⟩
theorem ok_gravity_first : ConOk Tryd.prog 88 con_gravity_first := ⟨k_gravity_first, fun x hx => ret_tf (ps := P_gravity_first) (rs := R_gravity_first) (x := x) (y := t_gravity_first x) e_gravity_first hC_gravity_first (tf_of (w_gravity_first_eq x (fun z => z = t_gravity_first x)) (d_gravity_first x (fun z => z = t_gravity_first x) (pp_gravity_first x hx) (tt_gravity_first x hx)))⟩
/- gravity_rangeErr -/
def C_gravity_rangeErr : Cons := [(93, [], con_gravity_isSized), (89, [], con_gravity_unless), (88, [], con_gravity_first)]
theorem hC_gravity_rangeErr : ConsOk Tryd.prog C_gravity_rangeErr := ConsOk.cons ok_gravity_isSized <| ConsOk.cons ok_gravity_unless <| ConsOk.cons ok_gravity_first <| ConsOk.nil
def w_gravity_rangeErr (p0 : (Int × Int)) (p1 : Int) (K : Int → Prop) : Prop :=
  ((((s_gravity_isSized p0.1 p1) = true) →
 ((s_gravity_isSized p0.1 p1) = (s_gravity_isSized p0.1 p1))) ∧
 ((((s_gravity_isSized p0.1 p1) = true) →
 ((s_gravity_isSized p0.1 p1) = (s_gravity_isSized p0.1 p1))) ∧
 ((((s_gravity_isSized p0.1 p1) = true) →
 ((s_gravity_isSized p0.1 p1) = (s_gravity_isSized p0.1 p1))) ∧
 (((s_gravity_isSized p0.1 p1) = (s_gravity_isSized p0.1 p1)) ∧
 ((lenOk ((s_gravity_unless (cond (s_gravity_isSized p0.1 p1) (s_gravity_isSized p0.2 p1) false) (2 : Int)) :: ((s_gravity_unless (decide (p0.1 ≤ p0.2)) (9 : Int)) :: ([] : List Int)))) ∧
 (K (v_first ((s_gravity_unless (cond (s_gravity_isSized p0.1 p1) (s_gravity_isSized p0.2 p1) false) (2 : Int)) :: ((s_gravity_unless (decide (p0.1 ≤ p0.2)) (9 : Int)) :: ([] : List Int))))))))))
set_option maxHeartbeats 4000000 in
theorem w_gravity_rangeErr_eq (p0 : (Int × Int)) (p1 : Int) (K : Int → Prop) : tfn F_gravity_rangeErr A_gravity_rangeErr C_gravity_rangeErr P_gravity_rangeErr R_gravity_rangeErr (p0, p1) K = w_gravity_rangeErr p0 p1 K := by kernel_rfl
def s_gravity_rangeErr (p0 : (Int × Int)) (p1 : Int) : Int :=
 (v_first ((s_gravity_unless (cond (s_gravity_isSized p0.1 p1) (s_gravity_isSized p0.2 p1) false) (2 : Int)) :: ((s_gravity_unless (decide (p0.1 ≤ p0.2)) (9 : Int)) :: ([] : List Int))))
abbrev pre_gravity_rangeErr (p0 : (Int × Int)) (p1 : Int) : List Prop := []
set_option maxHeartbeats 4000000 in
theorem d_gravity_rangeErr (p0 : (Int × Int)) (p1 : Int) (K : Int → Prop) (hp : ∀ p ∈ pre_gravity_rangeErr p0 p1, p) (h : K (s_gravity_rangeErr p0 p1)) : w_gravity_rangeErr p0 p1 K := by
 unfold w_gravity_rangeErr
 unfold s_gravity_rangeErr at h
 exact ⟨rf, rf, rf, rfl, (lenOk_of 2 rfl (by decide)), h⟩
abbrev con_gravity_rangeErr : Con := ⟨P_gravity_rangeErr, R_gravity_rangeErr, fun x => pre_gravity_rangeErr x.1 x.2, fun x => s_gravity_rangeErr x.1 x.2⟩
theorem ok_gravity_rangeErr : ConOk Tryd.prog 98 con_gravity_rangeErr := ⟨k_gravity_rangeErr, fun x hx => ret_tf (ps := P_gravity_rangeErr) (rs := R_gravity_rangeErr) (x := x) (y := s_gravity_rangeErr x.1 x.2) e_gravity_rangeErr hC_gravity_rangeErr (tf_of (w_gravity_rangeErr_eq x.1 x.2 (fun z => z = s_gravity_rangeErr x.1 x.2)) (d_gravity_rangeErr x.1 x.2 (fun z => z = s_gravity_rangeErr x.1 x.2) hx rfl))⟩
theorem tx_within' {n lo hi : Int} : s_gravity_within n lo hi = true ↔ lo ≤ n ∧ n ≤ hi := by unfold s_gravity_within; simp
theorem tx_range3 {x : Int × Int} (h : s_gravity_rangeErr x 1000000 = 0) : (-1000000 ≤ x.1 ∧ x.1 ≤ 1000000) ∧ (-1000000 ≤ x.2 ∧ x.2 ≤ 1000000) ∧ x.1 ≤ x.2 := by
 unfold s_gravity_rangeErr s_gravity_isSized at h
 rw [show IntKind.i64.wrap (0 - 1000000) = -1000000 from rfl] at h
 obtain ⟨h1, h⟩ := v_first0 h
 obtain ⟨h2, _⟩ := v_first0 h
 cases a : s_gravity_within x.1 (-1000000) 1000000 <;> cases b : s_gravity_within x.2 (-1000000) 1000000 <;> by_cases c : x.1 ≤ x.2 <;> simp [s_gravity_unless, a, b, c] at h1 h2
 exact ⟨tx_within'.1 a, tx_within'.1 b, c⟩
/- gravity_CheckVisits -/
def C_gravity_CheckVisits : Cons := [(89, [], con_gravity_unless), (88, [], con_gravity_first), (94, [], con_gravity_within), (98, [], con_gravity_rangeErr)]
theorem hC_gravity_CheckVisits : ConsOk Tryd.prog C_gravity_CheckVisits := ConsOk.cons ok_gravity_unless <| ConsOk.cons ok_gravity_first <| ConsOk.cons ok_gravity_within <| ConsOk.cons ok_gravity_rangeErr <| ConsOk.nil
abbrev q0_gravity_CheckVisits (p0 : (List (Int × (Int × Int)))) := ((s_gravity_unless (decide ((((List.length p0) : Nat) : Int) ≥ zz2)) (10 : Int)) :: ((s_gravity_unless (decide ((((List.length p0) : Nat) : Int) ≤ (10 : Int))) (8 : Int)) :: ([] : List Int)))
abbrev q1_gravity_CheckVisits (p0 : (List (Int × (Int × Int)))) (y1 : Int) := (s_gravity_unless (s_gravity_within (List.getD p0 (Int.toNat y1) (zz0, (zz0, zz0))).1 zz0 (1000000 : Int)) zz2)
def w_gravity_CheckVisits (p0 : (List (Int × (Int × Int)))) (K : (Int × Int) → Prop) : Prop :=
  ((lenOk (q0_gravity_CheckVisits p0)) ∧
 (((((v_first (q0_gravity_CheckVisits p0)) != zz0) = true) →
 (K (zz0, (v_first (q0_gravity_CheckVisits p0))))) ∧
 ((((v_first (q0_gravity_CheckVisits p0)) != zz0) = false) →
 (∃ n0, (loopP (fun (y1 : Int) k2 =>
   ((((decide (y1 < (((List.length p0) : Nat) : Int))) = true) →
   ((zz0 ≤ y1) ∧
    ((y1 < (((List.length p0) : Nat) : Int)) ∧
    ((((y1 == zz0) = false) →
    ((y1 == zz0) = (y1 == zz0))) ∧
    ((((y1 == zz0) = false) →
    ((y1 == zz0) = (y1 == zz0))) ∧
    ((((y1 == zz0) = false) →
    ((y1 == zz0) = (y1 == zz0))) ∧
    ((((y1 == zz0) = false) →
    ((y1 == zz0) = (y1 == zz0))) ∧
    ((((y1 == zz0) = false) →
    ((y1 == zz0) = (y1 == zz0))) ∧
    ((((y1 == zz0) = false) →
    (zz0 ≤ (max zz0 (wi (y1 - zz1))))) ∧
    ((((y1 == zz0) = false) →
    ((max zz0 (wi (y1 - zz1))) < (((List.length p0) : Nat) : Int))) ∧
    ((((y1 == zz0) = false) →
    ((y1 == zz0) = (y1 == zz0))) ∧
    ((((y1 == zz0) = false) →
    ((y1 == zz0) = (y1 == zz0))) ∧
    ((((y1 == zz0) = false) →
    ((y1 == zz0) = (y1 == zz0))) ∧
    ((((y1 == zz0) = false) →
    ((y1 == zz0) = (y1 == zz0))) ∧
    (((y1 == zz0) = (y1 == zz0)) ∧
    ((lenOk ((q1_gravity_CheckVisits p0 y1) :: ((s_gravity_rangeErr (List.getD p0 (Int.toNat y1) (zz0, (zz0, zz0))).2 (1000000 : Int)) :: ((s_gravity_unless (cond (y1 == zz0) true (decide ((List.getD p0 (Int.toNat y1) (zz0, (zz0, zz0))).1 > (List.getD p0 (Int.toNat (max zz0 (wi (y1 - zz1)))) (zz0, (zz0, zz0))).1))) (9 : Int)) :: ([] : List Int))))) ∧
    (((((v_first ((q1_gravity_CheckVisits p0 y1) :: ((s_gravity_rangeErr (List.getD p0 (Int.toNat y1) (zz0, (zz0, zz0))).2 (1000000 : Int)) :: ((s_gravity_unless (cond (y1 == zz0) true (decide ((List.getD p0 (Int.toNat y1) (zz0, (zz0, zz0))).1 > (List.getD p0 (Int.toNat (max zz0 (wi (y1 - zz1)))) (zz0, (zz0, zz0))).1))) (9 : Int)) :: ([] : List Int))))) != zz0) = true) →
    (K (y1, (v_first ((q1_gravity_CheckVisits p0 y1) :: ((s_gravity_rangeErr (List.getD p0 (Int.toNat y1) (zz0, (zz0, zz0))).2 (1000000 : Int)) :: ((s_gravity_unless (cond (y1 == zz0) true (decide ((List.getD p0 (Int.toNat y1) (zz0, (zz0, zz0))).1 > (List.getD p0 (Int.toNat (max zz0 (wi (y1 - zz1)))) (zz0, (zz0, zz0))).1))) (9 : Int)) :: ([] : List Int)))))))) ∧
    ((((v_first ((q1_gravity_CheckVisits p0 y1) :: ((s_gravity_rangeErr (List.getD p0 (Int.toNat y1) (zz0, (zz0, zz0))).2 (1000000 : Int)) :: ((s_gravity_unless (cond (y1 == zz0) true (decide ((List.getD p0 (Int.toNat y1) (zz0, (zz0, zz0))).1 > (List.getD p0 (Int.toNat (max zz0 (wi (y1 - zz1)))) (zz0, (zz0, zz0))).1))) (9 : Int)) :: ([] : List Int))))) != zz0) = false) →
    (k2 (wi (y1 + zz1))))))))))))))))))))) ∧
   (((decide (y1 < (((List.length p0) : Nat) : Int))) = false) →
   (K (zz0, zz0))))) n0 zz0)))))
set_option maxHeartbeats 4000000 in
theorem w_gravity_CheckVisits_eq (p0 : (List (Int × (Int × Int)))) (K : (Int × Int) → Prop) : tfn F_gravity_CheckVisits A_gravity_CheckVisits C_gravity_CheckVisits P_gravity_CheckVisits R_gravity_CheckVisits p0 K = w_gravity_CheckVisits p0 K := by kernel_rfl
def st_gravity_CheckVisits_0 (p0 : (List (Int × (Int × Int)))) (y1 : Int) : Int ⊕ (Int × Int) :=
 (cond (decide (y1 < (((List.length p0) : Nat) : Int))) (cond ((v_first ((s_gravity_unless (s_gravity_within (List.getD p0 (Int.toNat y1) ((0 : Int), ((0 : Int), (0 : Int)))).1 (0 : Int) (1000000 : Int)) (2 : Int)) :: ((s_gravity_rangeErr (List.getD p0 (Int.toNat y1) ((0 : Int), ((0 : Int), (0 : Int)))).2 (1000000 : Int)) :: ((s_gravity_unless (cond (y1 == (0 : Int)) true (decide ((List.getD p0 (Int.toNat y1) ((0 : Int), ((0 : Int), (0 : Int)))).1 > (List.getD p0 (Int.toNat (max (0 : Int) (IntKind.i64.wrap (y1 - (1 : Int))))) ((0 : Int), ((0 : Int), (0 : Int)))).1))) (9 : Int)) :: ([] : List Int))))) != (0 : Int)) (Sum.inr (y1, (v_first ((s_gravity_unless (s_gravity_within (List.getD p0 (Int.toNat y1) ((0 : Int), ((0 : Int), (0 : Int)))).1 (0 : Int) (1000000 : Int)) (2 : Int)) :: ((s_gravity_rangeErr (List.getD p0 (Int.toNat y1) ((0 : Int), ((0 : Int), (0 : Int)))).2 (1000000 : Int)) :: ((s_gravity_unless (cond (y1 == (0 : Int)) true (decide ((List.getD p0 (Int.toNat y1) ((0 : Int), ((0 : Int), (0 : Int)))).1 > (List.getD p0 (Int.toNat (max (0 : Int) (IntKind.i64.wrap (y1 - (1 : Int))))) ((0 : Int), ((0 : Int), (0 : Int)))).1))) (9 : Int)) :: ([] : List Int)))))))
  (Sum.inl (IntKind.i64.wrap (y1 + (1 : Int)))))
  (Sum.inr ((0 : Int), (0 : Int))))
abbrev sp_gravity_CheckVisits_0 (p0 : (List (Int × (Int × Int)))) (y1 : Int) : List Prop := [(((decide (y1 < (((List.length p0) : Nat) : Int))) = true) → ((0 : Int) ≤ y1)),
  (((decide (y1 < (((List.length p0) : Nat) : Int))) = true) → (y1 < (((List.length p0) : Nat) : Int))),
  (((decide (y1 < (((List.length p0) : Nat) : Int))) = true) → (((y1 == (0 : Int)) = false) → ((0 : Int) ≤ (max (0 : Int) (IntKind.i64.wrap (y1 - (1 : Int))))))),
  (((decide (y1 < (((List.length p0) : Nat) : Int))) = true) → (((y1 == (0 : Int)) = false) → ((max (0 : Int) (IntKind.i64.wrap (y1 - (1 : Int)))) < (((List.length p0) : Nat) : Int))))]
def s_gravity_CheckVisits (p0 : (List (Int × (Int × Int)))) : (Int × Int) :=
 (cond ((v_first ((s_gravity_unless (decide ((((List.length p0) : Nat) : Int) ≥ (2 : Int))) (10 : Int)) :: ((s_gravity_unless (decide ((((List.length p0) : Nat) : Int) ≤ (10 : Int))) (8 : Int)) :: ([] : List Int)))) != (0 : Int)) ((0 : Int), (v_first ((s_gravity_unless (decide ((((List.length p0) : Nat) : Int) ≥ (2 : Int))) (10 : Int)) :: ((s_gravity_unless (decide ((((List.length p0) : Nat) : Int) ≤ (10 : Int))) (8 : Int)) :: ([] : List Int)))))
  (lpv ((0 : Int), (0 : Int)) (st_gravity_CheckVisits_0 p0) (0 : Int)))
abbrev pre_gravity_CheckVisits (p0 : (List (Int × (Int × Int)))) : List Prop := [((((v_first ((s_gravity_unless (decide ((((List.length p0) : Nat) : Int) ≥ (2 : Int))) (10 : Int)) :: ((s_gravity_unless (decide ((((List.length p0) : Nat) : Int) ≤ (10 : Int))) (8 : Int)) :: ([] : List Int)))) != (0 : Int)) = false) → (OkL (st_gravity_CheckVisits_0 p0) (sp_gravity_CheckVisits_0 p0) (0 : Int)))]
set_option maxHeartbeats 4000000 in
theorem d_gravity_CheckVisits (p0 : (List (Int × (Int × Int)))) (K : (Int × Int) → Prop) (hp : ∀ p ∈ pre_gravity_CheckVisits p0, p) (h : K (s_gravity_CheckVisits p0)) : w_gravity_CheckVisits p0 K := by
 unfold w_gravity_CheckVisits
 unfold s_gravity_CheckVisits at h
 obtain ⟨hp0, _⟩ := conj_of hp
 exact ⟨(lenOk_of 2 rfl (by decide)), (br' h (fun e0 h => h)
  (fun e0 h => (loop_gen (hp0 e0) h (fun y1 k1 hp h => by
 unfold st_gravity_CheckVisits_0 at h; obtain ⟨hp0, hp1, hp2, hp3, _⟩ := conj_of hp
 exact (br' h (fun e2 h => ⟨(hp0 e2), (hp1 e2), rf, rf, rf, rf, rf, (hp2 e2), (hp3 e2), rf, rf, rf, rf, rfl, (lenOk_of 3 rfl (by decide)), (br' h (fun e3 h => h)
  (fun e3 h => h))⟩)
  (fun e2 h => h))))))⟩
/-- The error of a visit with this number. -/
def v_ve (p0 : List (Int × (Int × Int))) (i : Int) (x : Int × (Int × Int)) : Int := v_first [s_gravity_unless (s_gravity_within x.1 0 1000000) 2, s_gravity_rangeErr x.2 1000000, s_gravity_unless (cond (i == 0) true (decide (x.1 > (p0.getD (max 0 (i - 1)).toNat (0, (0, 0))).1))) 9]
theorem l_gravity_CheckVisits_0 (p0 : List (Int × (Int × Int))) (hl : lenOk p0) : OkL (st_gravity_CheckVisits_0 p0) (sp_gravity_CheckVisits_0 p0) 0 ∧ lpv ((0 : Int), (0 : Int)) (st_gravity_CheckVisits_0 p0) 0 = v_scan (fun i x => cond (v_ve p0 i x != 0) (some (i, v_ve p0 i x)) none) ((0 : Int), (0 : Int)) 0 p0 := by
 refine scan_is p0 (0, (0, 0)) _ _ hl ?_ ?_
 ·refine ⟨by simp only [sp_gravity_CheckVisits_0, List.forall_mem_cons, decide_eq_true_eq]; simp, by simp [st_gravity_CheckVisits_0]⟩
 ·intro j hj
  unfold lenOk at hl
  have hd : decide ((j : Int) < (p0.length : Nat)) = true := decide_eq_true (by omega)
  have hw : IntKind.i64.wrap ((j : Int) - 1) = j - 1 := wrap_id (by omega) (by omega)
  refine ⟨by simp only [sp_gravity_CheckVisits_0, List.forall_mem_cons, hw]; exact ⟨fun _ => by omega, fun _ => by omega, fun _ _ => by omega, fun _ _ => by omega, by simp⟩, ?_⟩
  simp only [st_gravity_CheckVisits_0, hd, hw, Int.toNat_natCast, cond_true, wrap_nat (show (j : Int) ≤ 9223372036854775806 by omega)]
  show cond (v_ve p0 j (p0.getD j (0, (0, 0))) != 0) _ _ = _
  cases (v_ve p0 j (p0.getD j (0, (0, 0))) != 0) <;> rfl
/-- The error of visits, with a number. -/
def v_visits (p0 : List (Int × (Int × Int))) : Int × Int := cond (v_first [s_gravity_unless (decide ((p0.length : Int) ≥ 2)) 10, s_gravity_unless (decide ((p0.length : Int) ≤ 10)) 8] != 0) (0, v_first [s_gravity_unless (decide ((p0.length : Int) ≥ 2)) 10, s_gravity_unless (decide ((p0.length : Int) ≤ 10)) 8]) (v_scan (fun i x => cond (v_ve p0 i x != 0) (some (i, v_ve p0 i x)) none) ((0 : Int), (0 : Int)) 0 p0)
/-- Valid visits. -/
structure v_vok (p0 : List (Int × (Int × Int))) : Prop where
 two : 2 ≤ p0.length
 ten : p0.length ≤ 10
 all : ∀ k, k < p0.length → (0 ≤ (p0.getD k (0, (0, 0))).1 ∧ (p0.getD k (0, (0, 0))).1 ≤ 1000000) ∧ (-1000000 ≤ (p0.getD k (0, (0, 0))).2.1 ∧ (p0.getD k (0, (0, 0))).2.1 ≤ 1000000) ∧ (-1000000 ≤ (p0.getD k (0, (0, 0))).2.2 ∧ (p0.getD k (0, (0, 0))).2.2 ≤ 1000000) ∧ (p0.getD k (0, (0, 0))).2.1 ≤ (p0.getD k (0, (0, 0))).2.2
 asc : ∀ k, k + 1 < p0.length → (p0.getD k (0, (0, 0))).1 < (p0.getD (k + 1) (0, (0, 0))).1
theorem tx_vislen {p0 : List (Int × (Int × Int))} (h : v_first [s_gravity_unless (decide ((p0.length : Int) ≥ 2)) 10, s_gravity_unless (decide ((p0.length : Int) ≤ 10)) 8] = 0) : 2 ≤ p0.length ∧ p0.length ≤ 10 := by
 obtain ⟨h1, h⟩ := v_first0 h
 obtain ⟨h2, _⟩ := v_first0 h
 have := of_decide_eq_true (tx_unless0' (by decide) h1)
 have := of_decide_eq_true (tx_unless0' (by decide) h2)
 omega
theorem tx_ve {p0 : List (Int × (Int × Int))} {i : Int} {x : Int × (Int × Int)} (h : v_ve p0 i x = 0) : (0 ≤ x.1 ∧ x.1 ≤ 1000000) ∧ ((-1000000 ≤ x.2.1 ∧ x.2.1 ≤ 1000000) ∧ (-1000000 ≤ x.2.2 ∧ x.2.2 ≤ 1000000) ∧ x.2.1 ≤ x.2.2) ∧ (i = 0 ∨ x.1 > (p0.getD (max 0 (i - 1)).toNat (0, (0, 0))).1) := by
 obtain ⟨h1, h⟩ := v_first0 h
 obtain ⟨h2, h⟩ := v_first0 h
 obtain ⟨h3, _⟩ := v_first0 h
 refine ⟨tx_within.1 (tx_unless0' (by decide) h1), tx_range3 h2, ?_⟩
 have := tx_unless0' (by decide) h3
 by_cases c : i = 0
 ·exact .inl c
 ·rw [show (i == 0) = false by simpa using c] at this
  exact .inr (of_decide_eq_true this)
theorem tx_visits {p0 : List (Int × (Int × Int))} (h : (v_visits p0).2 = 0) : v_vok p0 := by
 unfold v_visits at h
 rcases int0 (v_first [s_gravity_unless (decide ((p0.length : Int) ≥ 2)) 10, s_gravity_unless (decide ((p0.length : Int) ≤ 10)) 8]) with ⟨b1, b2, _⟩ | ⟨b1, b2, _⟩
 ·rw [b2] at h
  obtain ⟨l1, l2⟩ := tx_vislen b1
  have key := v_scan_end (P := fun (r : Int × Int) => r.2 = 0) p0 0 h (fun j x v _ hv => by
   cases hb : (v_ve p0 j x != 0) <;> rw [hb] at hv <;> simp only [cond_true, cond_false, Option.some.injEq, reduceCtorEq] at hv
   subst hv; simpa using hb)
  have key2 : ∀ k, (hk : k < p0.length) → v_ve p0 (k : Int) (p0.getD k (0, (0, 0))) = 0 := by
   intro k hk
   have := key k hk
   rw [Int.zero_add, ← gd_get (0, (0, 0)) hk] at this
   cases hb : (v_ve p0 (k : Int) (p0.getD k (0, (0, 0))) != 0)
   ·exact bne0' hb
   ·rw [hb] at this; cases this
  refine ⟨l1, l2, fun k hk => ?_, fun k hk => ?_⟩
  ·have := tx_ve (key2 k hk); exact ⟨this.1, this.2.1⟩
  ·have := (tx_ve (key2 (k + 1) hk)).2.2.resolve_left (by omega)
   rwa [show (max 0 (((k + 1 : Nat) : Int) - 1)).toNat = k by omega] at this
 ·rw [b2] at h; exact absurd h b1
theorem v_vok.lt {p0 : List (Int × (Int × Int))} (h : v_vok p0) : ∀ (d a : Nat), a + d + 1 < p0.length → (p0.getD a (0, (0, 0))).1 < (p0.getD (a + d + 1) (0, (0, 0))).1
 | 0, a, hb => h.asc a hb
 | d + 1, a, hb => by
  have h1 := h.lt d a (by omega)
  have h2 := h.asc (a + d + 1) (by omega)
  rw [show a + (d + 1) + 1 = a + d + 1 + 1 by omega]; omega
abbrev t_gravity_CheckVisits (p0 : List (Int × (Int × Int))) : Int × Int := v_visits p0
abbrev qre_gravity_CheckVisits (_ : List (Int × (Int × Int))) : List Prop := []
theorem pp_gravity_CheckVisits (p0 : List (Int × (Int × Int))) (_ : ∀ p ∈ qre_gravity_CheckVisits p0, p) : ∀ p ∈ pre_gravity_CheckVisits p0, p := by
 simp only [pre_gravity_CheckVisits, List.forall_mem_cons]
 refine ⟨fun h => (l_gravity_CheckVisits_0 p0 (lenOk_m ?_)).1, by simp⟩
 have := (tx_vislen (bne0' h)).2; omega
theorem tt_gravity_CheckVisits (p0 : List (Int × (Int × Int))) (_ : ∀ p ∈ qre_gravity_CheckVisits p0, p) : s_gravity_CheckVisits p0 = t_gravity_CheckVisits p0 := by
 unfold s_gravity_CheckVisits t_gravity_CheckVisits v_visits
 cases h : (v_first [s_gravity_unless (decide ((p0.length : Int) ≥ 2)) 10, s_gravity_unless (decide ((p0.length : Int) ≤ 10)) 8] != 0)
 ·exact (l_gravity_CheckVisits_0 p0 (lenOk_m (by have := (tx_vislen (bne0' h)).2; omega))).2
 ·rfl

abbrev con_gravity_CheckVisits : Con := ⟨P_gravity_CheckVisits, R_gravity_CheckVisits, fun x => qre_gravity_CheckVisits x, fun x => t_gravity_CheckVisits x⟩
theorem ok_gravity_CheckVisits : ConOk Tryd.prog 48 con_gravity_CheckVisits := ⟨k_gravity_CheckVisits, fun x hx => ret_tf (ps := P_gravity_CheckVisits) (rs := R_gravity_CheckVisits) (x := x) (y := t_gravity_CheckVisits x) e_gravity_CheckVisits hC_gravity_CheckVisits (tf_of (w_gravity_CheckVisits_eq x (fun z => z = t_gravity_CheckVisits x)) (d_gravity_CheckVisits x (fun z => z = t_gravity_CheckVisits x) (pp_gravity_CheckVisits x hx) (tt_gravity_CheckVisits x hx)))⟩
/- base_Within -/
def C_base_Within : Cons := []
theorem hC_base_Within : ConsOk Tryd.prog C_base_Within := ConsOk.nil
def w_base_Within (p0 : Int) (p1 : Int) (p2 : Int) (K : Bool → Prop) : Prop :=
  ((((decide (p1 ≤ p0)) = true) →
 ((decide (p1 ≤ p0)) = (decide (p1 ≤ p0)))) ∧
 ((((decide (p1 ≤ p0)) = true) →
 ((decide (p1 ≤ p0)) = (decide (p1 ≤ p0)))) ∧
 (((decide (p1 ≤ p0)) = (decide (p1 ≤ p0))) ∧
 (K (cond (decide (p1 ≤ p0)) (decide (p0 ≤ p2)) false)))))
set_option maxHeartbeats 4000000 in
theorem w_base_Within_eq (p0 : Int) (p1 : Int) (p2 : Int) (K : Bool → Prop) : tfn F_base_Within A_base_Within C_base_Within P_base_Within R_base_Within (p0, p1, p2) K = w_base_Within p0 p1 p2 K := by kernel_rfl
def s_base_Within (p0 : Int) (p1 : Int) (p2 : Int) : Bool :=
 (cond (decide (p1 ≤ p0)) (decide (p0 ≤ p2)) false)
abbrev pre_base_Within (p0 : Int) (p1 : Int) (p2 : Int) : List Prop := []
set_option maxHeartbeats 4000000 in
theorem d_base_Within (p0 : Int) (p1 : Int) (p2 : Int) (K : Bool → Prop) (hp : ∀ p ∈ pre_base_Within p0 p1 p2, p) (h : K (s_base_Within p0 p1 p2)) : w_base_Within p0 p1 p2 K := by
 unfold w_base_Within
 unfold s_base_Within at h
 exact ⟨rf, rf, rfl, h⟩
abbrev con_base_Within : Con := ⟨P_base_Within, R_base_Within, fun x => pre_base_Within x.1 x.2.1 x.2.2, fun x => s_base_Within x.1 x.2.1 x.2.2⟩
theorem ok_base_Within : ConOk Tryd.prog 60 con_base_Within := ⟨k_base_Within, fun x hx => ret_tf (ps := P_base_Within) (rs := R_base_Within) (x := x) (y := s_base_Within x.1 x.2.1 x.2.2) e_base_Within hC_base_Within (tf_of (w_base_Within_eq x.1 x.2.1 x.2.2 (fun z => z = s_base_Within x.1 x.2.1 x.2.2)) (d_base_Within x.1 x.2.1 x.2.2 (fun z => z = s_base_Within x.1 x.2.1 x.2.2) hx rfl))⟩
/- ref05_rangeErr -/
def C_ref05_rangeErr : Cons := [(60, [], con_base_Within)]
theorem hC_ref05_rangeErr : ConsOk Tryd.prog C_ref05_rangeErr := ConsOk.cons ok_base_Within <| ConsOk.nil
def w_ref05_rangeErr (p0 : (Int × Int)) (p1 : Int) (K : Int → Prop) : Prop :=
  ((((!(s_base_Within p0.1 (IntKind.i64.wrap ((0 : Int) - p1)) p1)) = false) →
 ((!(s_base_Within p0.1 (IntKind.i64.wrap ((0 : Int) - p1)) p1)) = (!(s_base_Within p0.1 (IntKind.i64.wrap ((0 : Int) - p1)) p1)))) ∧
 ((((!(s_base_Within p0.1 (IntKind.i64.wrap ((0 : Int) - p1)) p1)) = false) →
 ((!(s_base_Within p0.1 (IntKind.i64.wrap ((0 : Int) - p1)) p1)) = (!(s_base_Within p0.1 (IntKind.i64.wrap ((0 : Int) - p1)) p1)))) ∧
 ((((!(s_base_Within p0.1 (IntKind.i64.wrap ((0 : Int) - p1)) p1)) = false) →
 ((!(s_base_Within p0.1 (IntKind.i64.wrap ((0 : Int) - p1)) p1)) = (!(s_base_Within p0.1 (IntKind.i64.wrap ((0 : Int) - p1)) p1)))) ∧
 ((((!(s_base_Within p0.1 (IntKind.i64.wrap ((0 : Int) - p1)) p1)) = false) →
 ((!(s_base_Within p0.1 (IntKind.i64.wrap ((0 : Int) - p1)) p1)) = (!(s_base_Within p0.1 (IntKind.i64.wrap ((0 : Int) - p1)) p1)))) ∧
 ((((!(s_base_Within p0.1 (IntKind.i64.wrap ((0 : Int) - p1)) p1)) = false) →
 ((!(s_base_Within p0.1 (IntKind.i64.wrap ((0 : Int) - p1)) p1)) = (!(s_base_Within p0.1 (IntKind.i64.wrap ((0 : Int) - p1)) p1)))) ∧
 ((((!(s_base_Within p0.1 (IntKind.i64.wrap ((0 : Int) - p1)) p1)) = false) →
 ((!(s_base_Within p0.1 (IntKind.i64.wrap ((0 : Int) - p1)) p1)) = (!(s_base_Within p0.1 (IntKind.i64.wrap ((0 : Int) - p1)) p1)))) ∧
 (((!(s_base_Within p0.1 (IntKind.i64.wrap ((0 : Int) - p1)) p1)) = (!(s_base_Within p0.1 (IntKind.i64.wrap ((0 : Int) - p1)) p1))) ∧
 ((((cond (!(s_base_Within p0.1 (IntKind.i64.wrap ((0 : Int) - p1)) p1)) true (!(s_base_Within p0.2 (IntKind.i64.wrap ((0 : Int) - p1)) p1))) = true) →
 (K (2 : Int))) ∧
 (((cond (!(s_base_Within p0.1 (IntKind.i64.wrap ((0 : Int) - p1)) p1)) true (!(s_base_Within p0.2 (IntKind.i64.wrap ((0 : Int) - p1)) p1))) = false) →
 ((((decide (p0.1 > p0.2)) = true) →
  (K (9 : Int))) ∧
  (((decide (p0.1 > p0.2)) = false) →
  (K (0 : Int)))))))))))))
set_option maxHeartbeats 4000000 in
theorem w_ref05_rangeErr_eq (p0 : (Int × Int)) (p1 : Int) (K : Int → Prop) : tfn F_ref05_rangeErr A_ref05_rangeErr C_ref05_rangeErr P_ref05_rangeErr R_ref05_rangeErr (p0, p1) K = w_ref05_rangeErr p0 p1 K := by kernel_rfl
def s_ref05_rangeErr (p0 : (Int × Int)) (p1 : Int) : Int :=
 (cond (cond (!(s_base_Within p0.1 (IntKind.i64.wrap ((0 : Int) - p1)) p1)) true (!(s_base_Within p0.2 (IntKind.i64.wrap ((0 : Int) - p1)) p1))) (2 : Int)
  (cond (decide (p0.1 > p0.2)) (9 : Int)
  (0 : Int)))
abbrev pre_ref05_rangeErr (p0 : (Int × Int)) (p1 : Int) : List Prop := []
set_option maxHeartbeats 4000000 in
theorem d_ref05_rangeErr (p0 : (Int × Int)) (p1 : Int) (K : Int → Prop) (hp : ∀ p ∈ pre_ref05_rangeErr p0 p1, p) (h : K (s_ref05_rangeErr p0 p1)) : w_ref05_rangeErr p0 p1 K := by
 unfold w_ref05_rangeErr
 unfold s_ref05_rangeErr at h
 exact ⟨rf, rf, rf, rf, rf, rf, rfl, (br' h (fun e0 h => h)
  (fun e0 h => (br' h (fun e1 h => h)
  (fun e1 h => h))))⟩
theorem tx_eqw {n lo hi : Int} : s_base_Within n lo hi = s_gravity_within n lo hi := rfl
abbrev t_ref05_rangeErr (p0 : Int × Int) (p1 : Int) : Int := s_gravity_rangeErr p0 p1
abbrev qre_ref05_rangeErr (_ : Int × Int) (_ : Int) : List Prop := []
theorem pp_ref05_rangeErr (p0 : Int × Int) (p1 : Int) (_ : ∀ p ∈ qre_ref05_rangeErr p0 p1, p) : ∀ p ∈ pre_ref05_rangeErr p0 p1, p := by intro p hp; simp at hp
theorem tt_ref05_rangeErr (p0 : Int × Int) (p1 : Int) (_ : ∀ p ∈ qre_ref05_rangeErr p0 p1, p) : s_ref05_rangeErr p0 p1 = t_ref05_rangeErr p0 p1 := by
 unfold s_ref05_rangeErr t_ref05_rangeErr s_gravity_rangeErr s_gravity_isSized
 simp only [tx_eqw]
 rcases Int.lt_or_le p0.2 p0.1 with h | h
 ·have h' : ¬ p0.1 ≤ p0.2 := by omega
  cases s_gravity_within p0.1 (IntKind.i64.wrap (0 - p1)) p1 <;> cases s_gravity_within p0.2 (IntKind.i64.wrap (0 - p1)) p1 <;> simp [s_gravity_unless, v_first, h, h']
 ·have h' : ¬ p0.2 < p0.1 := by omega
  cases s_gravity_within p0.1 (IntKind.i64.wrap (0 - p1)) p1 <;> cases s_gravity_within p0.2 (IntKind.i64.wrap (0 - p1)) p1 <;> simp [s_gravity_unless, v_first, h, h']

abbrev con_ref05_rangeErr : Con := ⟨P_ref05_rangeErr, R_ref05_rangeErr, fun x => qre_ref05_rangeErr x.1 x.2, fun x => t_ref05_rangeErr x.1 x.2⟩
theorem ok_ref05_rangeErr : ConOk Tryd.prog 103 con_ref05_rangeErr := ⟨k_ref05_rangeErr, fun x hx => ret_tf (ps := P_ref05_rangeErr) (rs := R_ref05_rangeErr) (x := x) (y := t_ref05_rangeErr x.1 x.2) e_ref05_rangeErr hC_ref05_rangeErr (tf_of (w_ref05_rangeErr_eq x.1 x.2 (fun z => z = t_ref05_rangeErr x.1 x.2)) (d_ref05_rangeErr x.1 x.2 (fun z => z = t_ref05_rangeErr x.1 x.2) (pp_ref05_rangeErr x.1 x.2 hx) (tt_ref05_rangeErr x.1 x.2 hx)))⟩
/- ref05_CheckVisits -/
def C_ref05_CheckVisits : Cons := [(60, [], con_base_Within), (103, [], con_ref05_rangeErr)]
theorem hC_ref05_CheckVisits : ConsOk Tryd.prog C_ref05_CheckVisits := ConsOk.cons ok_base_Within <| ConsOk.cons ok_ref05_rangeErr <| ConsOk.nil
def w_ref05_CheckVisits (p0 : (List (Int × (Int × Int)))) (K : (Int × Int) → Prop) : Prop :=
  ((((decide ((((List.length p0) : Nat) : Int) < (2 : Int))) = true) →
 (K ((0 : Int), (10 : Int)))) ∧
 (((decide ((((List.length p0) : Nat) : Int) < (2 : Int))) = false) →
 ((((decide ((((List.length p0) : Nat) : Int) > (10 : Int))) = true) →
  (K ((0 : Int), (8 : Int)))) ∧
  (((decide ((((List.length p0) : Nat) : Int) > (10 : Int))) = false) →
  (∃ n0, (loopP (fun (y1 : Int) k2 =>
    ((((decide (y1 < (((List.length p0) : Nat) : Int))) = true) →
    (((0 : Int) ≤ y1) ∧
     ((y1 < (((List.length p0) : Nat) : Int)) ∧
     ((((!(s_base_Within (List.getD p0 (Int.toNat y1) ((0 : Int), ((0 : Int), (0 : Int)))).1 (0 : Int) (1000000 : Int))) = true) →
     (K (y1, (2 : Int)))) ∧
     (((!(s_base_Within (List.getD p0 (Int.toNat y1) ((0 : Int), ((0 : Int), (0 : Int)))).1 (0 : Int) (1000000 : Int))) = false) →
     (((0 : Int) ≤ y1) ∧
      ((y1 < (((List.length p0) : Nat) : Int)) ∧
      (((((s_gravity_rangeErr (List.getD p0 (Int.toNat y1) ((0 : Int), ((0 : Int), (0 : Int)))).2 (1000000 : Int)) != (0 : Int)) = true) →
      (K (y1, (s_gravity_rangeErr (List.getD p0 (Int.toNat y1) ((0 : Int), ((0 : Int), (0 : Int)))).2 (1000000 : Int))))) ∧
      ((((s_gravity_rangeErr (List.getD p0 (Int.toNat y1) ((0 : Int), ((0 : Int), (0 : Int)))).2 (1000000 : Int)) != (0 : Int)) = false) →
      ((((decide (y1 > (0 : Int))) = true) →
       ((decide (y1 > (0 : Int))) = (decide (y1 > (0 : Int))))) ∧
       ((((decide (y1 > (0 : Int))) = true) →
       ((decide (y1 > (0 : Int))) = (decide (y1 > (0 : Int))))) ∧
       ((((decide (y1 > (0 : Int))) = true) →
       ((0 : Int) ≤ y1)) ∧
       ((((decide (y1 > (0 : Int))) = true) →
       (y1 < (((List.length p0) : Nat) : Int))) ∧
       ((((decide (y1 > (0 : Int))) = true) →
       ((decide (y1 > (0 : Int))) = (decide (y1 > (0 : Int))))) ∧
       ((((decide (y1 > (0 : Int))) = true) →
       ((decide (y1 > (0 : Int))) = (decide (y1 > (0 : Int))))) ∧
       ((((decide (y1 > (0 : Int))) = true) →
       ((decide (y1 > (0 : Int))) = (decide (y1 > (0 : Int))))) ∧
       ((((decide (y1 > (0 : Int))) = true) →
       ((decide (y1 > (0 : Int))) = (decide (y1 > (0 : Int))))) ∧
       ((((decide (y1 > (0 : Int))) = true) →
       ((decide (y1 > (0 : Int))) = (decide (y1 > (0 : Int))))) ∧
       ((((decide (y1 > (0 : Int))) = true) →
       ((0 : Int) ≤ (IntKind.i64.wrap (y1 - (1 : Int))))) ∧
       ((((decide (y1 > (0 : Int))) = true) →
       ((IntKind.i64.wrap (y1 - (1 : Int))) < (((List.length p0) : Nat) : Int))) ∧
       ((((decide (y1 > (0 : Int))) = true) →
       ((decide (y1 > (0 : Int))) = (decide (y1 > (0 : Int))))) ∧
       ((((decide (y1 > (0 : Int))) = true) →
       ((decide (y1 > (0 : Int))) = (decide (y1 > (0 : Int))))) ∧
       ((((decide (y1 > (0 : Int))) = true) →
       ((decide (y1 > (0 : Int))) = (decide (y1 > (0 : Int))))) ∧
       ((((decide (y1 > (0 : Int))) = true) →
       ((decide (y1 > (0 : Int))) = (decide (y1 > (0 : Int))))) ∧
       (((decide (y1 > (0 : Int))) = (decide (y1 > (0 : Int)))) ∧
       ((((cond (decide (y1 > (0 : Int))) (decide ((List.getD p0 (Int.toNat y1) ((0 : Int), ((0 : Int), (0 : Int)))).1 ≤ (List.getD p0 (Int.toNat (IntKind.i64.wrap (y1 - (1 : Int)))) ((0 : Int), ((0 : Int), (0 : Int)))).1)) false) = true) →
       (K (y1, (9 : Int)))) ∧
       (((cond (decide (y1 > (0 : Int))) (decide ((List.getD p0 (Int.toNat y1) ((0 : Int), ((0 : Int), (0 : Int)))).1 ≤ (List.getD p0 (Int.toNat (IntKind.i64.wrap (y1 - (1 : Int)))) ((0 : Int), ((0 : Int), (0 : Int)))).1)) false) = false) →
       (k2 (IntKind.i64.wrap (y1 + (1 : Int))))))))))))))))))))))))))))))) ∧
    (((decide (y1 < (((List.length p0) : Nat) : Int))) = false) →
    (K ((0 : Int), (0 : Int)))))) n0 (0 : Int)))))))
set_option maxHeartbeats 4000000 in
theorem w_ref05_CheckVisits_eq (p0 : (List (Int × (Int × Int)))) (K : (Int × Int) → Prop) : tfn F_ref05_CheckVisits A_ref05_CheckVisits C_ref05_CheckVisits P_ref05_CheckVisits R_ref05_CheckVisits p0 K = w_ref05_CheckVisits p0 K := by kernel_rfl
def st_ref05_CheckVisits_0 (p0 : (List (Int × (Int × Int)))) (y2 : Int) : Int ⊕ (Int × Int) :=
 (cond (decide (y2 < (((List.length p0) : Nat) : Int))) (cond (!(s_base_Within (List.getD p0 (Int.toNat y2) ((0 : Int), ((0 : Int), (0 : Int)))).1 (0 : Int) (1000000 : Int))) (Sum.inr (y2, (2 : Int)))
  (cond ((s_gravity_rangeErr (List.getD p0 (Int.toNat y2) ((0 : Int), ((0 : Int), (0 : Int)))).2 (1000000 : Int)) != (0 : Int)) (Sum.inr (y2, (s_gravity_rangeErr (List.getD p0 (Int.toNat y2) ((0 : Int), ((0 : Int), (0 : Int)))).2 (1000000 : Int))))
  (cond (cond (decide (y2 > (0 : Int))) (decide ((List.getD p0 (Int.toNat y2) ((0 : Int), ((0 : Int), (0 : Int)))).1 ≤ (List.getD p0 (Int.toNat (IntKind.i64.wrap (y2 - (1 : Int)))) ((0 : Int), ((0 : Int), (0 : Int)))).1)) false) (Sum.inr (y2, (9 : Int)))
  (Sum.inl (IntKind.i64.wrap (y2 + (1 : Int)))))))
  (Sum.inr ((0 : Int), (0 : Int))))
abbrev sp_ref05_CheckVisits_0 (p0 : (List (Int × (Int × Int)))) (y2 : Int) : List Prop := [(((decide (y2 < (((List.length p0) : Nat) : Int))) = true) → ((0 : Int) ≤ y2)),
  (((decide (y2 < (((List.length p0) : Nat) : Int))) = true) → (y2 < (((List.length p0) : Nat) : Int))),
  (((decide (y2 < (((List.length p0) : Nat) : Int))) = true) → (((!(s_base_Within (List.getD p0 (Int.toNat y2) ((0 : Int), ((0 : Int), (0 : Int)))).1 (0 : Int) (1000000 : Int))) = false) → ((0 : Int) ≤ y2))),
  (((decide (y2 < (((List.length p0) : Nat) : Int))) = true) → (((!(s_base_Within (List.getD p0 (Int.toNat y2) ((0 : Int), ((0 : Int), (0 : Int)))).1 (0 : Int) (1000000 : Int))) = false) → (y2 < (((List.length p0) : Nat) : Int)))),
  (((decide (y2 < (((List.length p0) : Nat) : Int))) = true) → (((!(s_base_Within (List.getD p0 (Int.toNat y2) ((0 : Int), ((0 : Int), (0 : Int)))).1 (0 : Int) (1000000 : Int))) = false) → ((((s_gravity_rangeErr (List.getD p0 (Int.toNat y2) ((0 : Int), ((0 : Int), (0 : Int)))).2 (1000000 : Int)) != (0 : Int)) = false) → (((decide (y2 > (0 : Int))) = true) → ((0 : Int) ≤ y2))))),
  (((decide (y2 < (((List.length p0) : Nat) : Int))) = true) → (((!(s_base_Within (List.getD p0 (Int.toNat y2) ((0 : Int), ((0 : Int), (0 : Int)))).1 (0 : Int) (1000000 : Int))) = false) → ((((s_gravity_rangeErr (List.getD p0 (Int.toNat y2) ((0 : Int), ((0 : Int), (0 : Int)))).2 (1000000 : Int)) != (0 : Int)) = false) → (((decide (y2 > (0 : Int))) = true) → (y2 < (((List.length p0) : Nat) : Int)))))),
  (((decide (y2 < (((List.length p0) : Nat) : Int))) = true) → (((!(s_base_Within (List.getD p0 (Int.toNat y2) ((0 : Int), ((0 : Int), (0 : Int)))).1 (0 : Int) (1000000 : Int))) = false) → ((((s_gravity_rangeErr (List.getD p0 (Int.toNat y2) ((0 : Int), ((0 : Int), (0 : Int)))).2 (1000000 : Int)) != (0 : Int)) = false) → (((decide (y2 > (0 : Int))) = true) → ((0 : Int) ≤ (IntKind.i64.wrap (y2 - (1 : Int)))))))),
  (((decide (y2 < (((List.length p0) : Nat) : Int))) = true) → (((!(s_base_Within (List.getD p0 (Int.toNat y2) ((0 : Int), ((0 : Int), (0 : Int)))).1 (0 : Int) (1000000 : Int))) = false) → ((((s_gravity_rangeErr (List.getD p0 (Int.toNat y2) ((0 : Int), ((0 : Int), (0 : Int)))).2 (1000000 : Int)) != (0 : Int)) = false) → (((decide (y2 > (0 : Int))) = true) → ((IntKind.i64.wrap (y2 - (1 : Int))) < (((List.length p0) : Nat) : Int))))))]
def s_ref05_CheckVisits (p0 : (List (Int × (Int × Int)))) : (Int × Int) :=
 (cond (decide ((((List.length p0) : Nat) : Int) < (2 : Int))) ((0 : Int), (10 : Int))
  (cond (decide ((((List.length p0) : Nat) : Int) > (10 : Int))) ((0 : Int), (8 : Int))
  (lpv ((0 : Int), (0 : Int)) (st_ref05_CheckVisits_0 p0) (0 : Int))))
abbrev pre_ref05_CheckVisits (p0 : (List (Int × (Int × Int)))) : List Prop := [(((decide ((((List.length p0) : Nat) : Int) < (2 : Int))) = false) → (((decide ((((List.length p0) : Nat) : Int) > (10 : Int))) = false) → (OkL (st_ref05_CheckVisits_0 p0) (sp_ref05_CheckVisits_0 p0) (0 : Int))))]
set_option maxHeartbeats 4000000 in
theorem d_ref05_CheckVisits (p0 : (List (Int × (Int × Int)))) (K : (Int × Int) → Prop) (hp : ∀ p ∈ pre_ref05_CheckVisits p0, p) (h : K (s_ref05_CheckVisits p0)) : w_ref05_CheckVisits p0 K := by
 unfold w_ref05_CheckVisits
 unfold s_ref05_CheckVisits at h
 obtain ⟨hp0, _⟩ := conj_of hp
 exact (br' h (fun e0 h => h)
  (fun e0 h => (br' h (fun e1 h => h)
  (fun e1 h => (loop_gen (hp0 e0 e1) h (fun y2 k2 hp h => by
 unfold st_ref05_CheckVisits_0 at h; obtain ⟨hp0, hp1, hp2, hp3, hp4, hp5, hp6, hp7, _⟩ := conj_of hp
 exact (br' h (fun e3 h => ⟨(hp0 e3), (hp1 e3), (br' h (fun e4 h => h)
  (fun e4 h => ⟨(hp2 e3 e4), (hp3 e3 e4), (br' h (fun e5 h => h)
  (fun e5 h => ⟨rf, rf, (hp4 e3 e4 e5), (hp5 e3 e4 e5), rf, rf, rf, rf, rf, (hp6 e3 e4 e5), (hp7 e3 e4 e5), rf, rf, rf, rf, rfl, (br' h (fun e6 h => h)
  (fun e6 h => h))⟩))⟩))⟩)
  (fun e3 h => h))))))))
theorem tx_ve2 (p0 : List (Int × (Int × Int))) (j : Nat) (x : Int × (Int × Int)) : v_ve p0 j x = cond (!(s_base_Within x.1 0 1000000)) 2 (cond (s_gravity_rangeErr x.2 1000000 != 0) (s_gravity_rangeErr x.2 1000000) (cond (cond (decide ((j : Int) > 0)) (decide (x.1 ≤ (p0.getD (j - 1) (0, (0, 0))).1)) false) 9 0)) := by
 unfold v_ve
 rw [show s_base_Within x.1 0 1000000 = s_gravity_within x.1 0 1000000 from rfl]
 simp only [v_first]
 cases s_gravity_within x.1 0 1000000
 ·rfl
 ·rcases int0 (s_gravity_rangeErr x.2 1000000) with ⟨c1, c2, _⟩ | ⟨c1, c2, _⟩
  ·rw [c1]
   by_cases c : j = 0
   ·subst c; rfl
   ·rw [show ((j : Int) == 0) = false by simp; omega, decide_eq_true (show (j : Int) > 0 by omega), show (max 0 ((j : Int) - 1)).toNat = j - 1 by omega]
    rcases Int.lt_or_le (p0.getD (j - 1) (0, (0, 0))).1 x.1 with k | k
    ·rw [decide_eq_true (show x.1 > (p0.getD (j - 1) (0, (0, 0))).1 from k), decide_eq_false (show ¬ x.1 ≤ (p0.getD (j - 1) (0, (0, 0))).1 by omega)]; rfl
    ·rw [decide_eq_false (show ¬ x.1 > (p0.getD (j - 1) (0, (0, 0))).1 by omega), decide_eq_true k]; rfl
  ·rw [c2]; rfl
theorem l_ref05_CheckVisits_0 (p0 : List (Int × (Int × Int))) (hl : lenOk p0) : OkL (st_ref05_CheckVisits_0 p0) (sp_ref05_CheckVisits_0 p0) 0 ∧ lpv ((0 : Int), (0 : Int)) (st_ref05_CheckVisits_0 p0) 0 = v_scan (fun i x => cond (v_ve p0 i x != 0) (some (i, v_ve p0 i x)) none) ((0 : Int), (0 : Int)) 0 p0 := by
 refine scan_is p0 (0, (0, 0)) _ _ hl ?_ ?_
 ·refine ⟨by simp only [sp_ref05_CheckVisits_0, List.forall_mem_cons, decide_eq_true_eq]; simp, by simp [st_ref05_CheckVisits_0]⟩
 ·intro j hj
  unfold lenOk at hl
  have hd : decide ((j : Int) < (p0.length : Nat)) = true := decide_eq_true (by omega)
  have hw : IntKind.i64.wrap ((j : Int) - 1) = j - 1 := wrap_id (by omega) (by omega)
  refine ⟨by simp only [sp_ref05_CheckVisits_0, List.forall_mem_cons, hw, decide_eq_true_eq]; exact ⟨fun _ => by omega, fun _ => by omega, fun _ _ => by omega, fun _ _ => by omega, fun _ _ _ _ => by omega, fun _ _ _ _ => by omega, fun _ _ _ _ => by omega, fun _ _ _ _ => by omega, by simp⟩, ?_⟩
  simp only [st_ref05_CheckVisits_0, hd, hw, Int.toNat_natCast, cond_true, wrap_nat (show (j : Int) ≤ 9223372036854775806 by omega), tx_ve2]
  rw [show ((j : Int) - 1).toNat = j - 1 by omega]
  cases s_base_Within (p0.getD j (0, (0, 0))).1 0 1000000
  ·rfl
  ·rcases int0 (s_gravity_rangeErr (p0.getD j (0, (0, 0))).2 1000000) with ⟨c1, c2, _⟩ | ⟨c1, c2, _⟩
   ·rw [c2]
    simp only [Bool.not_true, cond_false]
    cases (cond (decide ((j : Int) > 0)) (decide ((p0.getD j (0, (0, 0))).1 ≤ (p0.getD (j - 1) (0, (0, 0))).1)) false) <;> rfl
   ·rw [c2]
    simp only [Bool.not_true, cond_false, cond_true, c2]
abbrev t_ref05_CheckVisits (p0 : List (Int × (Int × Int))) : Int × Int := v_visits p0
abbrev qre_ref05_CheckVisits (_ : List (Int × (Int × Int))) : List Prop := []
theorem pp_ref05_CheckVisits (p0 : List (Int × (Int × Int))) (_ : ∀ p ∈ qre_ref05_CheckVisits p0, p) : ∀ p ∈ pre_ref05_CheckVisits p0, p := by
 simp only [pre_ref05_CheckVisits, List.forall_mem_cons]
 refine ⟨fun _ h => (l_ref05_CheckVisits_0 p0 (lenOk_m ?_)).1, by simp⟩
 have := of_decide_eq_false h; omega
theorem tt_ref05_CheckVisits (p0 : List (Int × (Int × Int))) (_ : ∀ p ∈ qre_ref05_CheckVisits p0, p) : s_ref05_CheckVisits p0 = t_ref05_CheckVisits p0 := by
 unfold s_ref05_CheckVisits t_ref05_CheckVisits v_visits
 rcases Int.lt_or_le (p0.length : Int) 2 with c | c
 ·rw [decide_eq_true c, decide_eq_false (show ¬ (p0.length : Int) ≥ 2 by omega)]; rfl
 ·rcases Int.lt_or_le 10 (p0.length : Int) with d | d
  ·rw [decide_eq_false (show ¬ (p0.length : Int) < 2 by omega), decide_eq_true (show (p0.length : Int) ≥ 2 by omega), decide_eq_true (show (p0.length : Int) > 10 by omega), decide_eq_false (show ¬ (p0.length : Int) ≤ 10 by omega)]; rfl
  ·rw [decide_eq_false (show ¬ (p0.length : Int) < 2 by omega), decide_eq_true (show (p0.length : Int) ≥ 2 by omega), decide_eq_false (show ¬ (p0.length : Int) > 10 by omega), decide_eq_true (show (p0.length : Int) ≤ 10 by omega)]
   exact (l_ref05_CheckVisits_0 p0 (lenOk_m (by omega))).2

abbrev con_ref05_CheckVisits : Con := ⟨P_ref05_CheckVisits, R_ref05_CheckVisits, fun x => qre_ref05_CheckVisits x, fun x => t_ref05_CheckVisits x⟩
theorem ok_ref05_CheckVisits : ConOk Tryd.prog 52 con_ref05_CheckVisits := ⟨k_ref05_CheckVisits, fun x hx => ret_tf (ps := P_ref05_CheckVisits) (rs := R_ref05_CheckVisits) (x := x) (y := t_ref05_CheckVisits x) e_ref05_CheckVisits hC_ref05_CheckVisits (tf_of (w_ref05_CheckVisits_eq x (fun z => z = t_ref05_CheckVisits x)) (d_ref05_CheckVisits x (fun z => z = t_ref05_CheckVisits x) (pp_ref05_CheckVisits x hx) (tt_ref05_CheckVisits x hx)))⟩
/- ref05_VisitsErr -/
def C_ref05_VisitsErr : Cons := [(52, [], con_ref05_CheckVisits)]
theorem hC_ref05_VisitsErr : ConsOk Tryd.prog C_ref05_VisitsErr := ConsOk.cons ok_ref05_CheckVisits <| ConsOk.nil
def w_ref05_VisitsErr (p0 : (List (Int × (Int × Int)))) (K : Int → Prop) : Prop :=
  (K (v_visits p0).2)
set_option maxHeartbeats 4000000 in
theorem w_ref05_VisitsErr_eq (p0 : (List (Int × (Int × Int)))) (K : Int → Prop) : tfn F_ref05_VisitsErr A_ref05_VisitsErr C_ref05_VisitsErr P_ref05_VisitsErr R_ref05_VisitsErr p0 K = w_ref05_VisitsErr p0 K := by kernel_rfl
def s_ref05_VisitsErr (p0 : (List (Int × (Int × Int)))) : Int :=
 (v_visits p0).2
abbrev pre_ref05_VisitsErr (p0 : (List (Int × (Int × Int)))) : List Prop := []
set_option maxHeartbeats 4000000 in
theorem d_ref05_VisitsErr (p0 : (List (Int × (Int × Int)))) (K : Int → Prop) (hp : ∀ p ∈ pre_ref05_VisitsErr p0, p) (h : K (s_ref05_VisitsErr p0)) : w_ref05_VisitsErr p0 K := by
 unfold w_ref05_VisitsErr
 unfold s_ref05_VisitsErr at h
 exact h
abbrev con_ref05_VisitsErr : Con := ⟨P_ref05_VisitsErr, R_ref05_VisitsErr, fun x => pre_ref05_VisitsErr x, fun x => s_ref05_VisitsErr x⟩
theorem ok_ref05_VisitsErr : ConOk Tryd.prog 56 con_ref05_VisitsErr := ⟨k_ref05_VisitsErr, fun x hx => ret_tf (ps := P_ref05_VisitsErr) (rs := R_ref05_VisitsErr) (x := x) (y := s_ref05_VisitsErr x) e_ref05_VisitsErr hC_ref05_VisitsErr (tf_of (w_ref05_VisitsErr_eq x (fun z => z = s_ref05_VisitsErr x)) (d_ref05_VisitsErr x (fun z => z = s_ref05_VisitsErr x) hx rfl))⟩
/- gravity_divisor -/
def C_gravity_divisor : Cons := []
theorem hC_gravity_divisor : ConsOk Tryd.prog C_gravity_divisor := ConsOk.nil
def w_gravity_divisor (p0 : Int) (p1 : Int) (K : Int → Prop) : Prop :=
  (∃ n0, (loopP (fun (y1 : (Int × Int)) k2 =>
  ((((y1.1 != (0 : Int)) = true) →
  ((y1.1 ≠ (0 : Int)) ∧
   (k2 ((Int.tmod y1.2 y1.1), y1.1)))) ∧
  (((y1.1 != (0 : Int)) = false) →
  (K (max y1.2 (IntKind.i64.wrap ((0 : Int) - y1.2))))))) n0 (p1, p0)))
set_option maxHeartbeats 4000000 in
theorem w_gravity_divisor_eq (p0 : Int) (p1 : Int) (K : Int → Prop) : tfn F_gravity_divisor A_gravity_divisor C_gravity_divisor P_gravity_divisor R_gravity_divisor (p0, p1) K = w_gravity_divisor p0 p1 K := by kernel_rfl
def st_gravity_divisor_0 (p0 : Int) (p1 : Int) (y0 : (Int × Int)) : (Int × Int) ⊕ Int :=
 (cond (y0.1 != (0 : Int)) (Sum.inl ((Int.tmod y0.2 y0.1), y0.1))
  (Sum.inr (max y0.2 (IntKind.i64.wrap ((0 : Int) - y0.2)))))
abbrev sp_gravity_divisor_0 (p0 : Int) (p1 : Int) (y0 : (Int × Int)) : List Prop := [(((y0.1 != (0 : Int)) = true) → (y0.1 ≠ (0 : Int)))]
def s_gravity_divisor (p0 : Int) (p1 : Int) : Int :=
 (lpv (0 : Int) (st_gravity_divisor_0 p0 p1) (p1, p0))
abbrev pre_gravity_divisor (p0 : Int) (p1 : Int) : List Prop := [(OkL (st_gravity_divisor_0 p0 p1) (sp_gravity_divisor_0 p0 p1) (p1, p0))]
set_option maxHeartbeats 4000000 in
theorem d_gravity_divisor (p0 : Int) (p1 : Int) (K : Int → Prop) (hp : ∀ p ∈ pre_gravity_divisor p0 p1, p) (h : K (s_gravity_divisor p0 p1)) : w_gravity_divisor p0 p1 K := by
 unfold w_gravity_divisor
 unfold s_gravity_divisor at h
 obtain ⟨hp0, _⟩ := conj_of hp
 exact (loop_gen (hp0) h (fun y0 k0 hp h => by
 unfold st_gravity_divisor_0 at h; obtain ⟨hp0, _⟩ := conj_of hp
 exact (br' h (fun e1 h => ⟨(hp0 e1), h⟩)
  (fun e1 h => h))))
theorem l_gravity_divisor_0 (p0 p1 : Int) (h : v_gok p0 p1) : OkL (st_gravity_divisor_0 p0 p1) (sp_gravity_divisor_0 p0 p1) (p1, p0) ∧ lpv 0 (st_gravity_divisor_0 p0 p1) (p1, p0) = v_gcd p0 p1 := by
 refine gcd_is2 (fun y => rfl) (fun y => ?_) h
 simp only [sp_gravity_divisor_0, List.forall_mem_cons]
 simp
abbrev t_gravity_divisor (p0 p1 : Int) : Int := v_gcd p0 p1
abbrev qre_gravity_divisor (p0 p1 : Int) : List Prop := [v_gok p0 p1]
theorem pp_gravity_divisor (p0 p1 : Int) (hq : ∀ p ∈ qre_gravity_divisor p0 p1, p) : ∀ p ∈ pre_gravity_divisor p0 p1, p := by
 simp only [pre_gravity_divisor, List.forall_mem_cons]
 exact ⟨(l_gravity_divisor_0 p0 p1 (conj_of hq).1).1, by simp⟩
theorem tt_gravity_divisor (p0 p1 : Int) (hq : ∀ p ∈ qre_gravity_divisor p0 p1, p) : s_gravity_divisor p0 p1 = t_gravity_divisor p0 p1 := by
 exact (l_gravity_divisor_0 p0 p1 (conj_of hq).1).2

abbrev con_gravity_divisor : Con := ⟨P_gravity_divisor, R_gravity_divisor, fun x => qre_gravity_divisor x.1 x.2, fun x => t_gravity_divisor x.1 x.2⟩
theorem ok_gravity_divisor : ConOk Tryd.prog 114 con_gravity_divisor := ⟨k_gravity_divisor, fun x hx => ret_tf (ps := P_gravity_divisor) (rs := R_gravity_divisor) (x := x) (y := t_gravity_divisor x.1 x.2) e_gravity_divisor hC_gravity_divisor (tf_of (w_gravity_divisor_eq x.1 x.2 (fun z => z = t_gravity_divisor x.1 x.2)) (d_gravity_divisor x.1 x.2 (fun z => z = t_gravity_divisor x.1 x.2) (pp_gravity_divisor x.1 x.2 hx) (tt_gravity_divisor x.1 x.2 hx)))⟩
/- gravity_fraction -/
def C_gravity_fraction : Cons := [(114, [], con_gravity_divisor), (93, [], con_gravity_isSized)]
theorem hC_gravity_fraction : ConsOk Tryd.prog C_gravity_fraction := ConsOk.cons ok_gravity_divisor <| ConsOk.cons ok_gravity_isSized <| ConsOk.nil
def w_gravity_fraction (p0 : Int) (p1 : Int) (K : ((Int × Int) × Int) → Prop) : Prop :=
  ((v_gok p0 p1) ∧
 (((v_gcd p0 p1) ≠ (0 : Int)) ∧
 (((v_gcd p0 p1) ≠ (0 : Int)) ∧
 ((((!(s_gravity_isSized (IntKind.i64.wrap (Int.tdiv p0 (v_gcd p0 p1))) (1000000000 : Int))) = false) →
 ((!(s_gravity_isSized (IntKind.i64.wrap (Int.tdiv p0 (v_gcd p0 p1))) (1000000000 : Int))) = (!(s_gravity_isSized (IntKind.i64.wrap (Int.tdiv p0 (v_gcd p0 p1))) (1000000000 : Int))))) ∧
 ((((!(s_gravity_isSized (IntKind.i64.wrap (Int.tdiv p0 (v_gcd p0 p1))) (1000000000 : Int))) = false) →
 ((!(s_gravity_isSized (IntKind.i64.wrap (Int.tdiv p0 (v_gcd p0 p1))) (1000000000 : Int))) = (!(s_gravity_isSized (IntKind.i64.wrap (Int.tdiv p0 (v_gcd p0 p1))) (1000000000 : Int))))) ∧
 (((!(s_gravity_isSized (IntKind.i64.wrap (Int.tdiv p0 (v_gcd p0 p1))) (1000000000 : Int))) = (!(s_gravity_isSized (IntKind.i64.wrap (Int.tdiv p0 (v_gcd p0 p1))) (1000000000 : Int)))) ∧
 ((((cond (!(s_gravity_isSized (IntKind.i64.wrap (Int.tdiv p0 (v_gcd p0 p1))) (1000000000 : Int))) true (decide ((IntKind.i64.wrap (Int.tdiv p1 (v_gcd p0 p1))) > (1000000000 : Int)))) = true) →
 (K (((0 : Int), (0 : Int)), (8 : Int)))) ∧
 (((cond (!(s_gravity_isSized (IntKind.i64.wrap (Int.tdiv p0 (v_gcd p0 p1))) (1000000000 : Int))) true (decide ((IntKind.i64.wrap (Int.tdiv p1 (v_gcd p0 p1))) > (1000000000 : Int)))) = false) →
 (K (((IntKind.i64.wrap (Int.tdiv p0 (v_gcd p0 p1))), (IntKind.i64.wrap (Int.tdiv p1 (v_gcd p0 p1)))), (0 : Int)))))))))))
set_option maxHeartbeats 4000000 in
theorem w_gravity_fraction_eq (p0 : Int) (p1 : Int) (K : ((Int × Int) × Int) → Prop) : tfn F_gravity_fraction A_gravity_fraction C_gravity_fraction P_gravity_fraction R_gravity_fraction (p0, p1) K = w_gravity_fraction p0 p1 K := by kernel_rfl
def s_gravity_fraction (p0 : Int) (p1 : Int) : ((Int × Int) × Int) :=
 (cond (cond (!(s_gravity_isSized (IntKind.i64.wrap (Int.tdiv p0 (v_gcd p0 p1))) (1000000000 : Int))) true (decide ((IntKind.i64.wrap (Int.tdiv p1 (v_gcd p0 p1))) > (1000000000 : Int)))) (((0 : Int), (0 : Int)), (8 : Int))
  (((IntKind.i64.wrap (Int.tdiv p0 (v_gcd p0 p1))), (IntKind.i64.wrap (Int.tdiv p1 (v_gcd p0 p1)))), (0 : Int)))
abbrev pre_gravity_fraction (p0 : Int) (p1 : Int) : List Prop := [(v_gok p0 p1),
  ((v_gcd p0 p1) ≠ (0 : Int))]
set_option maxHeartbeats 4000000 in
theorem d_gravity_fraction (p0 : Int) (p1 : Int) (K : ((Int × Int) × Int) → Prop) (hp : ∀ p ∈ pre_gravity_fraction p0 p1, p) (h : K (s_gravity_fraction p0 p1)) : w_gravity_fraction p0 p1 K := by
 unfold w_gravity_fraction
 unfold s_gravity_fraction at h
 obtain ⟨hp0, hp1, _⟩ := conj_of hp
 exact ⟨(hp0), (hp1), (hp1), rf, rf, rfl, (br' h (fun e0 h => h)
  (fun e0 h => h))⟩
theorem tx_low {a b : Int} (ha : v_fit a) (hb : 0 < b) (hb2 : v_fit b) : IntKind.i64.wrap (a.tdiv (v_gcd a b)) = (v_low (a, b)).1 ∧ IntKind.i64.wrap (b.tdiv (v_gcd a b)) = (v_low (a, b)).2 ∧ (v_low (a, b)).1.natAbs ≤ a.natAbs ∧ 0 < (v_low (a, b)).2 ∧ (v_low (a, b)).2 ≤ b := by
 have hg := v_gcd_pos (a := a) (b := b) (by omega)
 have e1 := Int.tdiv_eq_ediv_of_dvd (v_gcd_dvd_left a b)
 have e2 := Int.tdiv_eq_ediv_of_dvd (v_gcd_dvd_right a b)
 have n1 : (a.tdiv (v_gcd a b)).natAbs ≤ a.natAbs := by rw [Int.natAbs_tdiv]; exact Nat.div_le_self _ _
 have n2 : (b.tdiv (v_gcd a b)).natAbs ≤ b.natAbs := by rw [Int.natAbs_tdiv]; exact Nat.div_le_self _ _
 have p2 : 0 < b / v_gcd a b := Int.ediv_pos_of_pos_of_dvd hb (by omega) (v_gcd_dvd_right a b)
 unfold v_fit at *
 unfold v_low
 simp only
 rw [← e1, ← e2]
 rw [← e2] at p2
 exact ⟨wrap_id (by omega) (by omega), wrap_id (by omega) (by omega), n1, p2, by omega⟩
/-- Both parts are small. -/
def v_small (f : Int × Int) : Bool := cond (s_gravity_isSized f.1 1000000000) (decide (f.2 ≤ 1000000000)) false
theorem tx_small {f : Int × Int} (h : 0 < f.2) : s_base_Within f.1 (-1000000000) 1000000000 = s_gravity_isSized f.1 1000000000 ∧ s_base_Within f.2 1 1000000000 = decide (f.2 ≤ 1000000000) := by
 refine ⟨rfl, ?_⟩
 show s_gravity_within f.2 1 1000000000 = _
 unfold s_gravity_within
 rw [decide_eq_true (show (1 : Int) ≤ f.2 by omega)]; rfl
abbrev t_gravity_fraction (p0 p1 : Int) : (Int × Int) × Int := cond (v_small (v_low (p0, p1))) (v_low (p0, p1), 0) ((0, 0), 8)
abbrev qre_gravity_fraction (p0 p1 : Int) : List Prop := [v_fit p0, 0 < p1, v_fit p1]
theorem pp_gravity_fraction (p0 p1 : Int) (hq : ∀ p ∈ qre_gravity_fraction p0 p1, p) : ∀ p ∈ pre_gravity_fraction p0 p1, p := by
 obtain ⟨h0, h1, h2, _⟩ := conj_of hq
 simp only [pre_gravity_fraction, List.forall_mem_cons]
 have := v_gcd_pos (a := p0) (b := p1) (by omega)
 exact ⟨v_gok_of h0 h2, by omega, by simp⟩
theorem tt_gravity_fraction (p0 p1 : Int) (hq : ∀ p ∈ qre_gravity_fraction p0 p1, p) : s_gravity_fraction p0 p1 = t_gravity_fraction p0 p1 := by
 obtain ⟨h0, h1, h2, _⟩ := conj_of hq
 obtain ⟨e1, e2, _⟩ := tx_low h0 h1 h2
 unfold s_gravity_fraction t_gravity_fraction v_small
 rw [e1, e2]
 cases s_gravity_isSized (v_low (p0, p1)).1 1000000000
 ·rfl
 ·rcases Int.lt_or_le 1000000000 (v_low (p0, p1)).2 with c | c
  ·rw [decide_eq_true (show (v_low (p0, p1)).2 > 1000000000 from c), decide_eq_false (show ¬ (v_low (p0, p1)).2 ≤ 1000000000 by omega)]; rfl
  ·rw [decide_eq_false (show ¬ (v_low (p0, p1)).2 > 1000000000 by omega), decide_eq_true c]; rfl

abbrev con_gravity_fraction : Con := ⟨P_gravity_fraction, R_gravity_fraction, fun x => qre_gravity_fraction x.1 x.2, fun x => t_gravity_fraction x.1 x.2⟩
theorem ok_gravity_fraction : ConOk Tryd.prog 95 con_gravity_fraction := ⟨k_gravity_fraction, fun x hx => ret_tf (ps := P_gravity_fraction) (rs := R_gravity_fraction) (x := x) (y := t_gravity_fraction x.1 x.2) e_gravity_fraction hC_gravity_fraction (tf_of (w_gravity_fraction_eq x.1 x.2 (fun z => z = t_gravity_fraction x.1 x.2)) (d_gravity_fraction x.1 x.2 (fun z => z = t_gravity_fraction x.1 x.2) (pp_gravity_fraction x.1 x.2 hx) (tt_gravity_fraction x.1 x.2 hx)))⟩
/- gravity_span -/
def C_gravity_span : Cons := [(95, [], con_gravity_fraction), (88, [], con_gravity_first)]
theorem hC_gravity_span : ConsOk Tryd.prog C_gravity_span := ConsOk.cons ok_gravity_fraction <| ConsOk.cons ok_gravity_first <| ConsOk.nil
abbrev q0_gravity_span (p0 : (Int × Int)) (p1 : (Int × Int)) := ((cond (v_small (v_low p0)) ((v_low p0), zz0) ((zz0, zz0), (8 : Int))).2 :: ((cond (v_small (v_low p1)) ((v_low p1), zz0) ((zz0, zz0), (8 : Int))).2 :: ([] : List Int)))
def w_gravity_span (p0 : (Int × Int)) (p1 : (Int × Int)) (K : (((Int × Int) × (Int × Int)) × Int) → Prop) : Prop :=
  ((v_fit p0.1) ∧
 ((zz0 < p0.2) ∧
 ((v_fit p0.2) ∧
 ((v_fit p1.1) ∧
 ((zz0 < p1.2) ∧
 ((v_fit p1.2) ∧
 ((lenOk (q0_gravity_span p0 p1)) ∧
 (((((v_first (q0_gravity_span p0 p1)) != zz0) = true) →
 (K (((zz0, zz0), (zz0, zz0)), (v_first (q0_gravity_span p0 p1))))) ∧
 ((((v_first (q0_gravity_span p0 p1)) != zz0) = false) →
 (K (((cond (v_small (v_low p0)) ((v_low p0), zz0) ((zz0, zz0), (8 : Int))).1, (cond (v_small (v_low p1)) ((v_low p1), zz0) ((zz0, zz0), (8 : Int))).1), zz0)))))))))))
set_option maxHeartbeats 4000000 in
theorem w_gravity_span_eq (p0 : (Int × Int)) (p1 : (Int × Int)) (K : (((Int × Int) × (Int × Int)) × Int) → Prop) : tfn F_gravity_span A_gravity_span C_gravity_span P_gravity_span R_gravity_span (p0, p1) K = w_gravity_span p0 p1 K := by kernel_rfl
def s_gravity_span (p0 : (Int × Int)) (p1 : (Int × Int)) : (((Int × Int) × (Int × Int)) × Int) :=
 (cond ((v_first ((cond (v_small (v_low p0)) ((v_low p0), (0 : Int)) (((0 : Int), (0 : Int)), (8 : Int))).2 :: ((cond (v_small (v_low p1)) ((v_low p1), (0 : Int)) (((0 : Int), (0 : Int)), (8 : Int))).2 :: ([] : List Int)))) != (0 : Int)) ((((0 : Int), (0 : Int)), ((0 : Int), (0 : Int))), (v_first ((cond (v_small (v_low p0)) ((v_low p0), (0 : Int)) (((0 : Int), (0 : Int)), (8 : Int))).2 :: ((cond (v_small (v_low p1)) ((v_low p1), (0 : Int)) (((0 : Int), (0 : Int)), (8 : Int))).2 :: ([] : List Int)))))
  (((cond (v_small (v_low p0)) ((v_low p0), (0 : Int)) (((0 : Int), (0 : Int)), (8 : Int))).1, (cond (v_small (v_low p1)) ((v_low p1), (0 : Int)) (((0 : Int), (0 : Int)), (8 : Int))).1), (0 : Int)))
abbrev pre_gravity_span (p0 : (Int × Int)) (p1 : (Int × Int)) : List Prop := [(v_fit p0.1),
  ((0 : Int) < p0.2),
  (v_fit p0.2),
  (v_fit p1.1),
  ((0 : Int) < p1.2),
  (v_fit p1.2)]
set_option maxHeartbeats 4000000 in
theorem d_gravity_span (p0 : (Int × Int)) (p1 : (Int × Int)) (K : (((Int × Int) × (Int × Int)) × Int) → Prop) (hp : ∀ p ∈ pre_gravity_span p0 p1, p) (h : K (s_gravity_span p0 p1)) : w_gravity_span p0 p1 K := by
 unfold w_gravity_span
 unfold s_gravity_span at h
 obtain ⟨hp0, hp1, hp2, hp3, hp4, hp5, _⟩ := conj_of hp
 exact ⟨(hp0), (hp1), (hp2), (hp3), (hp4), (hp5), (lenOk_of 2 rfl (by decide)), (br' h (fun e0 h => h)
  (fun e0 h => h))⟩
/-- Two quotients in lowest terms. -/
def v_span (x y : Int × Int) : ((Int × Int) × (Int × Int)) × Int := cond (cond (v_small (v_low x)) (v_small (v_low y)) false) ((v_low x, v_low y), 0) (((0, 0), (0, 0)), 8)
abbrev t_gravity_span (p0 p1 : Int × Int) : ((Int × Int) × (Int × Int)) × Int := v_span p0 p1
abbrev qre_gravity_span (p0 p1 : Int × Int) : List Prop := [v_fit p0.1, 0 < p0.2, v_fit p0.2, v_fit p1.1, 0 < p1.2, v_fit p1.2]
theorem pp_gravity_span (p0 p1 : Int × Int) (hq : ∀ p ∈ qre_gravity_span p0 p1, p) : ∀ p ∈ pre_gravity_span p0 p1, p := hq
theorem tt_gravity_span (p0 p1 : Int × Int) (_ : ∀ p ∈ qre_gravity_span p0 p1, p) : s_gravity_span p0 p1 = t_gravity_span p0 p1 := by
 unfold s_gravity_span t_gravity_span v_span
 cases v_small (v_low p0) <;> cases v_small (v_low p1) <;> rfl

abbrev con_gravity_span : Con := ⟨P_gravity_span, R_gravity_span, fun x => qre_gravity_span x.1 x.2, fun x => t_gravity_span x.1 x.2⟩
theorem ok_gravity_span : ConOk Tryd.prog 113 con_gravity_span := ⟨k_gravity_span, fun x hx => ret_tf (ps := P_gravity_span) (rs := R_gravity_span) (x := x) (y := t_gravity_span x.1 x.2) e_gravity_span hC_gravity_span (tf_of (w_gravity_span_eq x.1 x.2 (fun z => z = t_gravity_span x.1 x.2)) (d_gravity_span x.1 x.2 (fun z => z = t_gravity_span x.1 x.2) (pp_gravity_span x.1 x.2 hx) (tt_gravity_span x.1 x.2 hx)))⟩
/- gravity_CheckRate -/
def C_gravity_CheckRate : Cons := [(48, [], con_gravity_CheckVisits), (114, [], con_gravity_divisor), (93, [], con_gravity_isSized), (89, [], con_gravity_unless), (88, [], con_gravity_first), (113, [], con_gravity_span)]
theorem hC_gravity_CheckRate : ConsOk Tryd.prog C_gravity_CheckRate := ConsOk.cons ok_gravity_CheckVisits <| ConsOk.cons ok_gravity_divisor <| ConsOk.cons ok_gravity_isSized <| ConsOk.cons ok_gravity_unless <| ConsOk.cons ok_gravity_first <| ConsOk.cons ok_gravity_span <| ConsOk.nil
abbrev q0_gravity_CheckRate (p0 : (List (Int × (Int × Int)))) (p1 : (Int × Int)) := ((v_visits p0).2 :: ((s_gravity_unless (cond (decide (p1.2 > zz0)) ((v_gcd p1.1 p1.2) == zz1) false) zz3) :: ((s_gravity_unless (cond (s_gravity_isSized p1.1 (1000000 : Int)) (decide (p1.2 ≤ (1000000 : Int))) false) zz2) :: ([] : List Int))))
abbrev q1_gravity_CheckRate (p0 : (List (Int × (Int × Int)))) (y1 : (Int × (Int × Int))) := (List.getD p0 (Int.toNat y1.1) (zz0, (zz0, zz0)))
def w_gravity_CheckRate (p0 : (List (Int × (Int × Int)))) (p1 : (Int × Int)) (K : (((Int × Int) × (Int × Int)) × Int) → Prop) : Prop :=
  ((((decide (p1.2 > zz0)) = true) →
 ((decide (p1.2 > zz0)) = (decide (p1.2 > zz0)))) ∧
 ((((decide (p1.2 > zz0)) = true) →
 ((decide (p1.2 > zz0)) = (decide (p1.2 > zz0)))) ∧
 ((((decide (p1.2 > zz0)) = true) →
 ((decide (p1.2 > zz0)) = (decide (p1.2 > zz0)))) ∧
 ((((decide (p1.2 > zz0)) = true) →
 ((decide (p1.2 > zz0)) = (decide (p1.2 > zz0)))) ∧
 ((((decide (p1.2 > zz0)) = true) →
 (v_gok p1.1 p1.2)) ∧
 ((((decide (p1.2 > zz0)) = true) →
 ((decide (p1.2 > zz0)) = (decide (p1.2 > zz0)))) ∧
 (((decide (p1.2 > zz0)) = (decide (p1.2 > zz0))) ∧
 ((((s_gravity_isSized p1.1 (1000000 : Int)) = true) →
 ((s_gravity_isSized p1.1 (1000000 : Int)) = (s_gravity_isSized p1.1 (1000000 : Int)))) ∧
 ((((s_gravity_isSized p1.1 (1000000 : Int)) = true) →
 ((s_gravity_isSized p1.1 (1000000 : Int)) = (s_gravity_isSized p1.1 (1000000 : Int)))) ∧
 (((s_gravity_isSized p1.1 (1000000 : Int)) = (s_gravity_isSized p1.1 (1000000 : Int))) ∧
 ((lenOk (q0_gravity_CheckRate p0 p1)) ∧
 (((((v_first (q0_gravity_CheckRate p0 p1)) != zz0) = true) →
 (K (((zz0, zz0), (zz0, zz0)), (v_first (q0_gravity_CheckRate p0 p1))))) ∧
 ((((v_first (q0_gravity_CheckRate p0 p1)) != zz0) = false) →
 (∃ n0, (loopP (fun (y1 : (Int × (Int × Int))) k2 =>
   ((((decide (y1.1 < (((List.length p0) : Nat) : Int))) = true) →
   ((zz0 ≤ y1.1) ∧
    ((y1.1 < (((List.length p0) : Nat) : Int)) ∧
    ((((y1.1 == zz0) = true) →
    (k2 ((wi (y1.1 + zz1)), ((max (wi ((wi ((q1_gravity_CheckRate p0 y1).2.1 * p1.2)) - (wi (p1.1 * (q1_gravity_CheckRate p0 y1).1)))) (wi ((wi ((q1_gravity_CheckRate p0 y1).2.1 * p1.2)) - (wi (p1.1 * (q1_gravity_CheckRate p0 y1).1))))), (min (wi ((wi ((q1_gravity_CheckRate p0 y1).2.2 * p1.2)) - (wi (p1.1 * (q1_gravity_CheckRate p0 y1).1)))) (wi ((wi ((q1_gravity_CheckRate p0 y1).2.2 * p1.2)) - (wi (p1.1 * (q1_gravity_CheckRate p0 y1).1))))))))) ∧
    (((y1.1 == zz0) = false) →
    (k2 ((wi (y1.1 + zz1)), ((max y1.2.1 (wi ((wi ((q1_gravity_CheckRate p0 y1).2.1 * p1.2)) - (wi (p1.1 * (q1_gravity_CheckRate p0 y1).1))))), (min y1.2.2 (wi ((wi ((q1_gravity_CheckRate p0 y1).2.2 * p1.2)) - (wi (p1.1 * (q1_gravity_CheckRate p0 y1).1))))))))))))) ∧
   (((decide (y1.1 < (((List.length p0) : Nat) : Int))) = false) →
   ((((decide (y1.2.1 > y1.2.2)) = true) →
    (K (((zz0, zz0), (zz0, zz0)), (19 : Int)))) ∧
    (((decide (y1.2.1 > y1.2.2)) = false) →
    ((v_fit y1.2.1) ∧
     ((zz0 < p1.2) ∧
     ((v_fit p1.2) ∧
     ((v_fit y1.2.2) ∧
     ((zz0 < p1.2) ∧
     ((v_fit p1.2) ∧
     (K (v_span (y1.2.1, p1.2) (y1.2.2, p1.2)))))))))))))) n0 (zz0, (zz0, zz0)))))))))))))))))
set_option maxHeartbeats 4000000 in
theorem w_gravity_CheckRate_eq (p0 : (List (Int × (Int × Int)))) (p1 : (Int × Int)) (K : (((Int × Int) × (Int × Int)) × Int) → Prop) : tfn F_gravity_CheckRate A_gravity_CheckRate C_gravity_CheckRate P_gravity_CheckRate R_gravity_CheckRate (p0, p1) K = w_gravity_CheckRate p0 p1 K := by kernel_rfl
def st_gravity_CheckRate_0 (p0 : (List (Int × (Int × Int)))) (p1 : (Int × Int)) (y1 : (Int × (Int × Int))) : (Int × (Int × Int)) ⊕ (((Int × Int) × (Int × Int)) × Int) :=
 (cond (decide (y1.1 < (((List.length p0) : Nat) : Int))) (cond (y1.1 == (0 : Int)) (Sum.inl ((IntKind.i64.wrap (y1.1 + (1 : Int))), ((max (IntKind.i64.wrap ((IntKind.i64.wrap ((List.getD p0 (Int.toNat y1.1) ((0 : Int), ((0 : Int), (0 : Int)))).2.1 * p1.2)) - (IntKind.i64.wrap (p1.1 * (List.getD p0 (Int.toNat y1.1) ((0 : Int), ((0 : Int), (0 : Int)))).1)))) (IntKind.i64.wrap ((IntKind.i64.wrap ((List.getD p0 (Int.toNat y1.1) ((0 : Int), ((0 : Int), (0 : Int)))).2.1 * p1.2)) - (IntKind.i64.wrap (p1.1 * (List.getD p0 (Int.toNat y1.1) ((0 : Int), ((0 : Int), (0 : Int)))).1))))), (min (IntKind.i64.wrap ((IntKind.i64.wrap ((List.getD p0 (Int.toNat y1.1) ((0 : Int), ((0 : Int), (0 : Int)))).2.2 * p1.2)) - (IntKind.i64.wrap (p1.1 * (List.getD p0 (Int.toNat y1.1) ((0 : Int), ((0 : Int), (0 : Int)))).1)))) (IntKind.i64.wrap ((IntKind.i64.wrap ((List.getD p0 (Int.toNat y1.1) ((0 : Int), ((0 : Int), (0 : Int)))).2.2 * p1.2)) - (IntKind.i64.wrap (p1.1 * (List.getD p0 (Int.toNat y1.1) ((0 : Int), ((0 : Int), (0 : Int)))).1))))))))
  (Sum.inl ((IntKind.i64.wrap (y1.1 + (1 : Int))), ((max y1.2.1 (IntKind.i64.wrap ((IntKind.i64.wrap ((List.getD p0 (Int.toNat y1.1) ((0 : Int), ((0 : Int), (0 : Int)))).2.1 * p1.2)) - (IntKind.i64.wrap (p1.1 * (List.getD p0 (Int.toNat y1.1) ((0 : Int), ((0 : Int), (0 : Int)))).1))))), (min y1.2.2 (IntKind.i64.wrap ((IntKind.i64.wrap ((List.getD p0 (Int.toNat y1.1) ((0 : Int), ((0 : Int), (0 : Int)))).2.2 * p1.2)) - (IntKind.i64.wrap (p1.1 * (List.getD p0 (Int.toNat y1.1) ((0 : Int), ((0 : Int), (0 : Int)))).1)))))))))
  (cond (decide (y1.2.1 > y1.2.2)) (Sum.inr ((((0 : Int), (0 : Int)), ((0 : Int), (0 : Int))), (19 : Int)))
  (Sum.inr (v_span (y1.2.1, p1.2) (y1.2.2, p1.2)))))
abbrev sp_gravity_CheckRate_0 (p0 : (List (Int × (Int × Int)))) (p1 : (Int × Int)) (y1 : (Int × (Int × Int))) : List Prop := [(((decide (y1.1 < (((List.length p0) : Nat) : Int))) = true) → ((0 : Int) ≤ y1.1)),
  (((decide (y1.1 < (((List.length p0) : Nat) : Int))) = true) → (y1.1 < (((List.length p0) : Nat) : Int))),
  (((decide (y1.1 < (((List.length p0) : Nat) : Int))) = false) → (((decide (y1.2.1 > y1.2.2)) = false) → (v_fit y1.2.1))),
  (((decide (y1.1 < (((List.length p0) : Nat) : Int))) = false) → (((decide (y1.2.1 > y1.2.2)) = false) → ((0 : Int) < p1.2))),
  (((decide (y1.1 < (((List.length p0) : Nat) : Int))) = false) → (((decide (y1.2.1 > y1.2.2)) = false) → (v_fit p1.2))),
  (((decide (y1.1 < (((List.length p0) : Nat) : Int))) = false) → (((decide (y1.2.1 > y1.2.2)) = false) → (v_fit y1.2.2)))]
def s_gravity_CheckRate (p0 : (List (Int × (Int × Int)))) (p1 : (Int × Int)) : (((Int × Int) × (Int × Int)) × Int) :=
 (cond ((v_first ((v_visits p0).2 :: ((s_gravity_unless (cond (decide (p1.2 > (0 : Int))) ((v_gcd p1.1 p1.2) == (1 : Int)) false) (3 : Int)) :: ((s_gravity_unless (cond (s_gravity_isSized p1.1 (1000000 : Int)) (decide (p1.2 ≤ (1000000 : Int))) false) (2 : Int)) :: ([] : List Int))))) != (0 : Int)) ((((0 : Int), (0 : Int)), ((0 : Int), (0 : Int))), (v_first ((v_visits p0).2 :: ((s_gravity_unless (cond (decide (p1.2 > (0 : Int))) ((v_gcd p1.1 p1.2) == (1 : Int)) false) (3 : Int)) :: ((s_gravity_unless (cond (s_gravity_isSized p1.1 (1000000 : Int)) (decide (p1.2 ≤ (1000000 : Int))) false) (2 : Int)) :: ([] : List Int))))))
  (lpv ((((0 : Int), (0 : Int)), ((0 : Int), (0 : Int))), (0 : Int)) (st_gravity_CheckRate_0 p0 p1) ((0 : Int), ((0 : Int), (0 : Int)))))
abbrev pre_gravity_CheckRate (p0 : (List (Int × (Int × Int)))) (p1 : (Int × Int)) : List Prop := [(((decide (p1.2 > (0 : Int))) = true) → (v_gok p1.1 p1.2)),
  ((((v_first ((v_visits p0).2 :: ((s_gravity_unless (cond (decide (p1.2 > (0 : Int))) ((v_gcd p1.1 p1.2) == (1 : Int)) false) (3 : Int)) :: ((s_gravity_unless (cond (s_gravity_isSized p1.1 (1000000 : Int)) (decide (p1.2 ≤ (1000000 : Int))) false) (2 : Int)) :: ([] : List Int))))) != (0 : Int)) = false) → (OkL (st_gravity_CheckRate_0 p0 p1) (sp_gravity_CheckRate_0 p0 p1) ((0 : Int), ((0 : Int), (0 : Int)))))]
set_option maxHeartbeats 4000000 in
theorem d_gravity_CheckRate (p0 : (List (Int × (Int × Int)))) (p1 : (Int × Int)) (K : (((Int × Int) × (Int × Int)) × Int) → Prop) (hp : ∀ p ∈ pre_gravity_CheckRate p0 p1, p) (h : K (s_gravity_CheckRate p0 p1)) : w_gravity_CheckRate p0 p1 K := by
 unfold w_gravity_CheckRate
 unfold s_gravity_CheckRate at h
 obtain ⟨hp0, hp1, _⟩ := conj_of hp
 exact ⟨rf, rf, rf, rf, (hp0), rf, rfl, rf, rf, rfl, (lenOk_of 3 rfl (by decide)), (br' h (fun e0 h => h)
  (fun e0 h => (loop_gen (hp1 e0) h (fun y1 k1 hp h => by
 unfold st_gravity_CheckRate_0 at h; obtain ⟨hp0, hp1, hp2, hp3, hp4, hp5, _⟩ := conj_of hp
 exact (br' h (fun e2 h => ⟨(hp0 e2), (hp1 e2), (br' h (fun e3 h => h)
  (fun e3 h => h))⟩)
  (fun e2 h => (br' h (fun e4 h => h)
  (fun e4 h => ⟨(hp2 e2 e4), (hp3 e2 e4), (hp4 e2 e4), (hp5 e2 e4), (hp3 e2 e4), (hp4 e2 e4), h⟩))))))))⟩
/-- The beginnings times the denominator, by so many visits. -/
def v_bl (p0 : List (Int × (Int × Int))) (p1 : Int × Int) (k : Nat) : Int := (p0.getD k (0, (0, 0))).2.1 * p1.2 - p1.1 * (p0.getD k (0, (0, 0))).1
def v_bh (p0 : List (Int × (Int × Int))) (p1 : Int × Int) (k : Nat) : Int := (p0.getD k (0, (0, 0))).2.2 * p1.2 - p1.1 * (p0.getD k (0, (0, 0))).1
def v_beg (p0 : List (Int × (Int × Int))) (p1 : Int × Int) : Nat → Int × Int
 | 0 => (0, 0)
 | 1 => (v_bl p0 p1 0, v_bh p0 p1 0)
 | n + 1 => (max (v_beg p0 p1 n).1 (v_bl p0 p1 n), min (v_beg p0 p1 n).2 (v_bh p0 p1 n))
theorem v_beg_succ {p0 : List (Int × (Int × Int))} {p1 : Int × Int} {n : Nat} (h : n ≠ 0) : v_beg p0 p1 (n + 1) = (max (v_beg p0 p1 n).1 (v_bl p0 p1 n), min (v_beg p0 p1 n).2 (v_bh p0 p1 n)) := by
 cases n with
 | zero => exact absurd rfl h
 | succ n => rfl
/-- A rate that is looked at. -/
structure v_rok (p1 : Int × Int) : Prop where
 n : -1000000 ≤ p1.1 ∧ p1.1 ≤ 1000000
 d : 0 < p1.2 ∧ p1.2 ≤ 1000000
theorem v_bl_in {p0 : List (Int × (Int × Int))} {p1 : Int × Int} (h : v_vok p0) (hr : v_rok p1) {k : Nat} (hk : k < p0.length) : IntKind.i64.wrap (IntKind.i64.wrap ((p0.getD k (0, (0, 0))).2.1 * p1.2) - IntKind.i64.wrap (p1.1 * (p0.getD k (0, (0, 0))).1)) = v_bl p0 p1 k ∧ IntKind.i64.wrap (IntKind.i64.wrap ((p0.getD k (0, (0, 0))).2.2 * p1.2) - IntKind.i64.wrap (p1.1 * (p0.getD k (0, (0, 0))).1)) = v_bh p0 p1 k ∧ (-2000000000000 ≤ v_bl p0 p1 k ∧ v_bl p0 p1 k ≤ 2000000000000) ∧ (-2000000000000 ≤ v_bh p0 p1 k ∧ v_bh p0 p1 k ≤ 2000000000000) := by
 have ha := h.all k hk
 have d1 : -1000000 ≤ p1.2 := by have := hr.d; omega
 have m1 := mul_abs ha.2.1.1 ha.2.1.2 d1 hr.d.2
 have m2 := mul_abs ha.2.2.1.1 ha.2.2.1.2 d1 hr.d.2
 have m3 := mul_abs hr.n.1 hr.n.2 (show -1000000 ≤ (p0.getD k (0, (0, 0))).1 by omega) ha.1.2
 unfold v_bl v_bh
 generalize (p0.getD k (0, (0, 0))).2.1 * p1.2 = a at *
 generalize (p0.getD k (0, (0, 0))).2.2 * p1.2 = b at *
 generalize p1.1 * (p0.getD k (0, (0, 0))).1 = c at *
 rw [wrap_id (n := a) (by omega) (by omega), wrap_id (n := b) (by omega) (by omega), wrap_id (n := c) (by omega) (by omega)]
 exact ⟨wrap_id (by omega) (by omega), wrap_id (by omega) (by omega), by omega, by omega⟩
theorem v_beg_in {p0 : List (Int × (Int × Int))} {p1 : Int × Int} (h : v_vok p0) (hr : v_rok p1) : ∀ (n : Nat), n ≤ p0.length → (-2000000000000 ≤ (v_beg p0 p1 n).1 ∧ (v_beg p0 p1 n).1 ≤ 2000000000000) ∧ (-2000000000000 ≤ (v_beg p0 p1 n).2 ∧ (v_beg p0 p1 n).2 ≤ 2000000000000)
 | 0, _ => by simp [v_beg]
 | 1, hn => ⟨(v_bl_in h hr (k := 0) (by omega)).2.2.1, (v_bl_in h hr (k := 0) (by omega)).2.2.2⟩
 | n + 2, hn => by
  have i := v_beg_in h hr (n + 1) (by omega)
  have j := (v_bl_in h hr (k := n + 1) (by omega)).2.2
  rw [v_beg_succ (by omega)]
  simp only; omega
/-- The beginnings for a rate. -/
def v_crate (p0 : List (Int × (Int × Int))) (p1 : Int × Int) : ((Int × Int) × (Int × Int)) × Int := cond (decide ((v_beg p0 p1 p0.length).1 > (v_beg p0 p1 p0.length).2)) (((0, 0), (0, 0)), 19) (v_span ((v_beg p0 p1 p0.length).1, p1.2) ((v_beg p0 p1 p0.length).2, p1.2))
theorem l_gravity_CheckRate (p0 : List (Int × (Int × Int))) (p1 : Int × Int) (h : v_vok p0) (hr : v_rok p1) : OkL (st_gravity_CheckRate_0 p0 p1) (sp_gravity_CheckRate_0 p0 p1) (0, (0, 0)) ∧ lpv (((0, 0), (0, 0)), 0) (st_gravity_CheckRate_0 p0 p1) (0, (0, 0)) = v_crate p0 p1 := by
 have hten := h.ten
 refine for_is (fun i t => (i, t)) 0 p0.length (fun j t => t = v_beg p0 p1 j) (fun _ _ => v_crate p0 p1) (by omega) (by omega) ?_ ?_ _ rfl
 ·rintro t rfl
  have hd : decide ((p0.length : Int) < (p0.length : Nat)) = false := decide_eq_false (by omega)
  have hb := v_beg_in h hr p0.length (by omega)
  have hdd := hr.d
  refine ⟨?_, ?_⟩
  ·simp only [sp_gravity_CheckRate_0, List.forall_mem_cons]
   unfold v_fit
   have no : ∀ {p : Prop}, decide ((p0.length : Int) < (p0.length : Nat)) = true → p := fun h => by rw [hd] at h; cases h
   exact ⟨no, no, fun _ _ => by omega, fun _ _ => by omega, fun _ _ => by omega, fun _ _ => by omega, by simp⟩
  ·simp only [st_gravity_CheckRate_0, hd, cond_false]
   unfold v_crate
   cases decide ((v_beg p0 p1 p0.length).1 > (v_beg p0 p1 p0.length).2) <;> rfl
 ·rintro j t _ hj rfl
  have hd : decide ((j : Int) < (p0.length : Nat)) = true := decide_eq_true (by omega)
  obtain ⟨w1, w2, _⟩ := v_bl_in h hr hj
  refine ⟨?_, .inl ⟨_, ?_, rfl, rfl⟩⟩
  ·simp only [sp_gravity_CheckRate_0, List.forall_mem_cons]
   have no : ∀ {p : Prop}, decide ((j : Int) < (p0.length : Nat)) = false → p := fun h => by rw [hd] at h; cases h
   exact ⟨fun _ => by omega, fun _ => by omega, no, no, no, no, by simp⟩
  ·simp only [st_gravity_CheckRate_0, hd, cond_true, Int.toNat_natCast, w1, w2, wrap_nat (show (j : Int) ≤ 9223372036854775806 by omega)]
   by_cases c : j = 0
   ·subst c
    simp only [v_beg]
    rw [show (((0 : Nat) : Int) == 0) = true from rfl]
    simp only [cond_true, Int.max_self, Int.min_self]
    rfl
   ·rw [show ((j : Int) == 0) = false by simp; omega, v_beg_succ c]
    rfl
/-- The error of a rate alone. -/
def v_rerr (p1 : Int × Int) : Int := v_first [s_gravity_unless (cond (decide (p1.2 > 0)) (v_gcd p1.1 p1.2 == 1) false) 3, s_gravity_unless (cond (s_gravity_isSized p1.1 1000000) (decide (p1.2 ≤ 1000000)) false) 2]
theorem tx_andR {a b : Bool} (h : (cond a b false) = true) : a = true ∧ b = true := by cases a <;> simp_all
theorem tx_rerr {p1 : Int × Int} (h : v_rerr p1 = 0) : v_rok p1 := by
 obtain ⟨h1, h⟩ := v_first0 h
 obtain ⟨h2, _⟩ := v_first0 h
 obtain ⟨g1, _⟩ := tx_andR (tx_unless0' (by decide) h1)
 obtain ⟨g2, g3⟩ := tx_andR (tx_unless0' (by decide) h2)
 have := of_decide_eq_true g1
 have := of_decide_eq_true g3
 exact ⟨tx_within'.1 g2, by omega⟩
abbrev t_gravity_CheckRate (p0 : List (Int × (Int × Int))) (p1 : Int × Int) : ((Int × Int) × (Int × Int)) × Int := cond ((v_visits p0).2 != 0) (((0, 0), (0, 0)), (v_visits p0).2) (cond (v_rerr p1 != 0) (((0, 0), (0, 0)), v_rerr p1) (v_crate p0 p1))
abbrev qre_gravity_CheckRate (_ : List (Int × (Int × Int))) (p1 : Int × Int) : List Prop := [p1.2 > 0 → v_gok p1.1 p1.2]
theorem tx_crerr (p0 : List (Int × (Int × Int))) (p1 : Int × Int) : v_first [(v_visits p0).2, s_gravity_unless (cond (decide (p1.2 > 0)) (v_gcd p1.1 p1.2 == 1) false) 3, s_gravity_unless (cond (s_gravity_isSized p1.1 1000000) (decide (p1.2 ≤ 1000000)) false) 2] = cond ((v_visits p0).2 != 0) (v_visits p0).2 (v_rerr p1) := rfl
theorem pp_gravity_CheckRate (p0 : List (Int × (Int × Int))) (p1 : Int × Int) (hq : ∀ p ∈ qre_gravity_CheckRate p0 p1, p) : ∀ p ∈ pre_gravity_CheckRate p0 p1, p := by
 simp only [pre_gravity_CheckRate, List.forall_mem_cons, tx_crerr]
 refine ⟨fun h => (conj_of hq).1 (of_decide_eq_true h), fun h => ?_, by simp⟩
 have h := bne0' h
 rcases int0 (v_visits p0).2 with ⟨b1, b2, _⟩ | ⟨b1, b2, _⟩
 ·rw [b2] at h
  exact (l_gravity_CheckRate p0 p1 (tx_visits b1) (tx_rerr h)).1
 ·rw [b2] at h; exact absurd h b1
theorem tt_gravity_CheckRate (p0 : List (Int × (Int × Int))) (p1 : Int × Int) (_ : ∀ p ∈ qre_gravity_CheckRate p0 p1, p) : s_gravity_CheckRate p0 p1 = t_gravity_CheckRate p0 p1 := by
 unfold s_gravity_CheckRate t_gravity_CheckRate
 rw [tx_crerr]
 rcases int0 (v_visits p0).2 with ⟨b1, b2, _⟩ | ⟨b1, b2, _⟩
 ·rw [b2]
  simp only [cond_false]
  rcases int0 (v_rerr p1) with ⟨c1, c2, _⟩ | ⟨c1, c2, _⟩
  ·rw [c2]
   exact (l_gravity_CheckRate p0 p1 (tx_visits b1) (tx_rerr c1)).2
  ·rw [c2]; rfl
 ·rw [b2]; simp only [cond_true, b2]

abbrev con_gravity_CheckRate : Con := ⟨P_gravity_CheckRate, R_gravity_CheckRate, fun x => qre_gravity_CheckRate x.1 x.2, fun x => t_gravity_CheckRate x.1 x.2⟩
theorem ok_gravity_CheckRate : ConOk Tryd.prog 51 con_gravity_CheckRate := ⟨k_gravity_CheckRate, fun x hx => ret_tf (ps := P_gravity_CheckRate) (rs := R_gravity_CheckRate) (x := x) (y := t_gravity_CheckRate x.1 x.2) e_gravity_CheckRate hC_gravity_CheckRate (tf_of (w_gravity_CheckRate_eq x.1 x.2 (fun z => z = t_gravity_CheckRate x.1 x.2)) (d_gravity_CheckRate x.1 x.2 (fun z => z = t_gravity_CheckRate x.1 x.2) (pp_gravity_CheckRate x.1 x.2 hx) (tt_gravity_CheckRate x.1 x.2 hx)))⟩
/- base_Size -/
def C_base_Size : Cons := []
theorem hC_base_Size : ConsOk Tryd.prog C_base_Size := ConsOk.nil
def w_base_Size (p0 : Int) (K : Int → Prop) : Prop :=
  (K (max p0 (IntKind.i64.wrap ((0 : Int) - p0))))
set_option maxHeartbeats 4000000 in
theorem w_base_Size_eq (p0 : Int) (K : Int → Prop) : tfn F_base_Size A_base_Size C_base_Size P_base_Size R_base_Size p0 K = w_base_Size p0 K := by kernel_rfl
def s_base_Size (p0 : Int) : Int :=
 (max p0 (IntKind.i64.wrap ((0 : Int) - p0)))
abbrev pre_base_Size (p0 : Int) : List Prop := []
set_option maxHeartbeats 4000000 in
theorem d_base_Size (p0 : Int) (K : Int → Prop) (hp : ∀ p ∈ pre_base_Size p0, p) (h : K (s_base_Size p0)) : w_base_Size p0 K := by
 unfold w_base_Size
 unfold s_base_Size at h
 exact h
abbrev con_base_Size : Con := ⟨P_base_Size, R_base_Size, fun x => pre_base_Size x, fun x => s_base_Size x⟩
theorem ok_base_Size : ConOk Tryd.prog 65 con_base_Size := ⟨k_base_Size, fun x hx => ret_tf (ps := P_base_Size) (rs := R_base_Size) (x := x) (y := s_base_Size x) e_base_Size hC_base_Size (tf_of (w_base_Size_eq x (fun z => z = s_base_Size x)) (d_base_Size x (fun z => z = s_base_Size x) hx rfl))⟩
/- base_Gcd -/
def C_base_Gcd : Cons := [(65, [], con_base_Size)]
theorem hC_base_Gcd : ConsOk Tryd.prog C_base_Gcd := ConsOk.cons ok_base_Size <| ConsOk.nil
def w_base_Gcd (p0 : Int) (p1 : Int) (K : Int → Prop) : Prop :=
  (∃ n0, (loopP (fun (y1 : (Int × Int)) k2 =>
  ((((y1.1 != (0 : Int)) = true) →
  ((y1.1 ≠ (0 : Int)) ∧
   (k2 ((Int.tmod y1.2 y1.1), y1.1)))) ∧
  (((y1.1 != (0 : Int)) = false) →
  (K (s_base_Size y1.2))))) n0 (p1, p0)))
set_option maxHeartbeats 4000000 in
theorem w_base_Gcd_eq (p0 : Int) (p1 : Int) (K : Int → Prop) : tfn F_base_Gcd A_base_Gcd C_base_Gcd P_base_Gcd R_base_Gcd (p0, p1) K = w_base_Gcd p0 p1 K := by kernel_rfl
def st_base_Gcd_0 (p0 : Int) (p1 : Int) (y0 : (Int × Int)) : (Int × Int) ⊕ Int :=
 (cond (y0.1 != (0 : Int)) (Sum.inl ((Int.tmod y0.2 y0.1), y0.1))
  (Sum.inr (s_base_Size y0.2)))
abbrev sp_base_Gcd_0 (p0 : Int) (p1 : Int) (y0 : (Int × Int)) : List Prop := [(((y0.1 != (0 : Int)) = true) → (y0.1 ≠ (0 : Int)))]
def s_base_Gcd (p0 : Int) (p1 : Int) : Int :=
 (lpv (0 : Int) (st_base_Gcd_0 p0 p1) (p1, p0))
abbrev pre_base_Gcd (p0 : Int) (p1 : Int) : List Prop := [(OkL (st_base_Gcd_0 p0 p1) (sp_base_Gcd_0 p0 p1) (p1, p0))]
set_option maxHeartbeats 4000000 in
theorem d_base_Gcd (p0 : Int) (p1 : Int) (K : Int → Prop) (hp : ∀ p ∈ pre_base_Gcd p0 p1, p) (h : K (s_base_Gcd p0 p1)) : w_base_Gcd p0 p1 K := by
 unfold w_base_Gcd
 unfold s_base_Gcd at h
 obtain ⟨hp0, _⟩ := conj_of hp
 exact (loop_gen (hp0) h (fun y0 k0 hp h => by
 unfold st_base_Gcd_0 at h; obtain ⟨hp0, _⟩ := conj_of hp
 exact (br' h (fun e1 h => ⟨(hp0 e1), h⟩)
  (fun e1 h => h))))
theorem l_base_Gcd_0 (p0 p1 : Int) (h : v_gok p0 p1) : OkL (st_base_Gcd_0 p0 p1) (sp_base_Gcd_0 p0 p1) (p1, p0) ∧ lpv 0 (st_base_Gcd_0 p0 p1) (p1, p0) = v_gcd p0 p1 := by
 refine gcd_is2 (fun y => rfl) (fun y => ?_) h
 simp only [sp_base_Gcd_0, List.forall_mem_cons]
 simp
abbrev t_base_Gcd (p0 p1 : Int) : Int := v_gcd p0 p1
abbrev qre_base_Gcd (p0 p1 : Int) : List Prop := [v_gok p0 p1]
theorem pp_base_Gcd (p0 p1 : Int) (hq : ∀ p ∈ qre_base_Gcd p0 p1, p) : ∀ p ∈ pre_base_Gcd p0 p1, p := by
 simp only [pre_base_Gcd, List.forall_mem_cons]
 exact ⟨(l_base_Gcd_0 p0 p1 (conj_of hq).1).1, by simp⟩
theorem tt_base_Gcd (p0 p1 : Int) (hq : ∀ p ∈ qre_base_Gcd p0 p1, p) : s_base_Gcd p0 p1 = t_base_Gcd p0 p1 := by
 exact (l_base_Gcd_0 p0 p1 (conj_of hq).1).2

abbrev con_base_Gcd : Con := ⟨P_base_Gcd, R_base_Gcd, fun x => qre_base_Gcd x.1 x.2, fun x => t_base_Gcd x.1 x.2⟩
theorem ok_base_Gcd : ConOk Tryd.prog 115 con_base_Gcd := ⟨k_base_Gcd, fun x hx => ret_tf (ps := P_base_Gcd) (rs := R_base_Gcd) (x := x) (y := t_base_Gcd x.1 x.2) e_base_Gcd hC_base_Gcd (tf_of (w_base_Gcd_eq x.1 x.2 (fun z => z = t_base_Gcd x.1 x.2)) (d_base_Gcd x.1 x.2 (fun z => z = t_base_Gcd x.1 x.2) (pp_base_Gcd x.1 x.2 hx) (tt_base_Gcd x.1 x.2 hx)))⟩
/- base_IsLowest -/
def C_base_IsLowest : Cons := [(115, [], con_base_Gcd)]
theorem hC_base_IsLowest : ConsOk Tryd.prog C_base_IsLowest := ConsOk.cons ok_base_Gcd <| ConsOk.nil
def w_base_IsLowest (p0 : (Int × Int)) (K : Bool → Prop) : Prop :=
  ((((decide (p0.2 > (0 : Int))) = true) →
 ((decide (p0.2 > (0 : Int))) = (decide (p0.2 > (0 : Int))))) ∧
 ((((decide (p0.2 > (0 : Int))) = true) →
 ((decide (p0.2 > (0 : Int))) = (decide (p0.2 > (0 : Int))))) ∧
 ((((decide (p0.2 > (0 : Int))) = true) →
 ((decide (p0.2 > (0 : Int))) = (decide (p0.2 > (0 : Int))))) ∧
 ((((decide (p0.2 > (0 : Int))) = true) →
 ((decide (p0.2 > (0 : Int))) = (decide (p0.2 > (0 : Int))))) ∧
 ((((decide (p0.2 > (0 : Int))) = true) →
 (v_gok p0.1 p0.2)) ∧
 ((((decide (p0.2 > (0 : Int))) = true) →
 ((decide (p0.2 > (0 : Int))) = (decide (p0.2 > (0 : Int))))) ∧
 (((decide (p0.2 > (0 : Int))) = (decide (p0.2 > (0 : Int)))) ∧
 (K (cond (decide (p0.2 > (0 : Int))) ((v_gcd p0.1 p0.2) == (1 : Int)) false)))))))))
set_option maxHeartbeats 4000000 in
theorem w_base_IsLowest_eq (p0 : (Int × Int)) (K : Bool → Prop) : tfn F_base_IsLowest A_base_IsLowest C_base_IsLowest P_base_IsLowest R_base_IsLowest p0 K = w_base_IsLowest p0 K := by kernel_rfl
def s_base_IsLowest (p0 : (Int × Int)) : Bool :=
 (cond (decide (p0.2 > (0 : Int))) ((v_gcd p0.1 p0.2) == (1 : Int)) false)
abbrev pre_base_IsLowest (p0 : (Int × Int)) : List Prop := [(((decide (p0.2 > (0 : Int))) = true) → (v_gok p0.1 p0.2))]
set_option maxHeartbeats 4000000 in
theorem d_base_IsLowest (p0 : (Int × Int)) (K : Bool → Prop) (hp : ∀ p ∈ pre_base_IsLowest p0, p) (h : K (s_base_IsLowest p0)) : w_base_IsLowest p0 K := by
 unfold w_base_IsLowest
 unfold s_base_IsLowest at h
 obtain ⟨hp0, _⟩ := conj_of hp
 exact ⟨rf, rf, rf, rf, (hp0), rf, rfl, h⟩
abbrev t_base_IsLowest (p0 : Int × Int) : Bool := cond (decide (p0.2 > 0)) (v_gcd p0.1 p0.2 == 1) false
abbrev qre_base_IsLowest (p0 : Int × Int) : List Prop := [p0.2 > 0 → v_gok p0.1 p0.2]
theorem pp_base_IsLowest (p0 : Int × Int) (hq : ∀ p ∈ qre_base_IsLowest p0, p) : ∀ p ∈ pre_base_IsLowest p0, p := by
 simp only [pre_base_IsLowest, List.forall_mem_cons]
 exact ⟨fun h => (conj_of hq).1 (of_decide_eq_true h), by simp⟩
theorem tt_base_IsLowest (p0 : Int × Int) (hq : ∀ p ∈ qre_base_IsLowest p0, p) : s_base_IsLowest p0 = t_base_IsLowest p0 := by
 rfl

abbrev con_base_IsLowest : Con := ⟨P_base_IsLowest, R_base_IsLowest, fun x => qre_base_IsLowest x, fun x => t_base_IsLowest x⟩
theorem ok_base_IsLowest : ConOk Tryd.prog 57 con_base_IsLowest := ⟨k_base_IsLowest, fun x hx => ret_tf (ps := P_base_IsLowest) (rs := R_base_IsLowest) (x := x) (y := t_base_IsLowest x) e_base_IsLowest hC_base_IsLowest (tf_of (w_base_IsLowest_eq x (fun z => z = t_base_IsLowest x)) (d_base_IsLowest x (fun z => z = t_base_IsLowest x) (pp_base_IsLowest x hx) (tt_base_IsLowest x hx)))⟩
/- ref05_RateErr -/
def C_ref05_RateErr : Cons := [(57, [], con_base_IsLowest), (60, [], con_base_Within)]
theorem hC_ref05_RateErr : ConsOk Tryd.prog C_ref05_RateErr := ConsOk.cons ok_base_IsLowest <| ConsOk.cons ok_base_Within <| ConsOk.nil
def w_ref05_RateErr (p0 : (Int × Int)) (K : Int → Prop) : Prop :=
  (((p0.2 > (0 : Int)) →
 (v_gok p0.1 p0.2)) ∧
 ((((!(cond (decide (p0.2 > (0 : Int))) ((v_gcd p0.1 p0.2) == (1 : Int)) false)) = true) →
 (K (3 : Int))) ∧
 (((!(cond (decide (p0.2 > (0 : Int))) ((v_gcd p0.1 p0.2) == (1 : Int)) false)) = false) →
 ((((!(s_base_Within p0.1 (-1000000 : Int) (1000000 : Int))) = false) →
  ((!(s_base_Within p0.1 (-1000000 : Int) (1000000 : Int))) = (!(s_base_Within p0.1 (-1000000 : Int) (1000000 : Int))))) ∧
  ((((!(s_base_Within p0.1 (-1000000 : Int) (1000000 : Int))) = false) →
  ((!(s_base_Within p0.1 (-1000000 : Int) (1000000 : Int))) = (!(s_base_Within p0.1 (-1000000 : Int) (1000000 : Int))))) ∧
  (((!(s_base_Within p0.1 (-1000000 : Int) (1000000 : Int))) = (!(s_base_Within p0.1 (-1000000 : Int) (1000000 : Int)))) ∧
  ((((cond (!(s_base_Within p0.1 (-1000000 : Int) (1000000 : Int))) true (decide (p0.2 > (1000000 : Int)))) = true) →
  (K (2 : Int))) ∧
  (((cond (!(s_base_Within p0.1 (-1000000 : Int) (1000000 : Int))) true (decide (p0.2 > (1000000 : Int)))) = false) →
  (K (0 : Int))))))))))
set_option maxHeartbeats 4000000 in
theorem w_ref05_RateErr_eq (p0 : (Int × Int)) (K : Int → Prop) : tfn F_ref05_RateErr A_ref05_RateErr C_ref05_RateErr P_ref05_RateErr R_ref05_RateErr p0 K = w_ref05_RateErr p0 K := by kernel_rfl
def s_ref05_RateErr (p0 : (Int × Int)) : Int :=
 (cond (!(cond (decide (p0.2 > (0 : Int))) ((v_gcd p0.1 p0.2) == (1 : Int)) false)) (3 : Int)
  (cond (cond (!(s_base_Within p0.1 (-1000000 : Int) (1000000 : Int))) true (decide (p0.2 > (1000000 : Int)))) (2 : Int)
  (0 : Int)))
abbrev pre_ref05_RateErr (p0 : (Int × Int)) : List Prop := [((p0.2 > (0 : Int)) → (v_gok p0.1 p0.2))]
set_option maxHeartbeats 4000000 in
theorem d_ref05_RateErr (p0 : (Int × Int)) (K : Int → Prop) (hp : ∀ p ∈ pre_ref05_RateErr p0, p) (h : K (s_ref05_RateErr p0)) : w_ref05_RateErr p0 K := by
 unfold w_ref05_RateErr
 unfold s_ref05_RateErr at h
 obtain ⟨hp0, _⟩ := conj_of hp
 exact ⟨(hp0), (br' h (fun e0 h => h)
  (fun e0 h => ⟨rf, rf, rfl, (br' h (fun e1 h => h)
  (fun e1 h => h))⟩))⟩
theorem tx_rerr2 (p0 : Int × Int) : s_ref05_RateErr p0 = v_rerr p0 := by
 show cond (!(cond (decide (p0.2 > 0)) (v_gcd p0.1 p0.2 == 1) false)) 3 (cond (cond (!(s_gravity_isSized p0.1 1000000)) true (decide (p0.2 > 1000000))) 2 0) = _
 unfold v_rerr
 rcases Int.lt_or_le 1000000 p0.2 with k | k
 ·rw [decide_eq_true (show p0.2 > 1000000 from k), decide_eq_false (show ¬ p0.2 ≤ 1000000 by omega)]
  cases cond (decide (p0.2 > 0)) (v_gcd p0.1 p0.2 == 1) false <;> cases s_gravity_isSized p0.1 1000000 <;> rfl
 ·rw [decide_eq_false (show ¬ p0.2 > 1000000 by omega), decide_eq_true k]
  cases cond (decide (p0.2 > 0)) (v_gcd p0.1 p0.2 == 1) false <;> cases s_gravity_isSized p0.1 1000000 <;> rfl
abbrev t_ref05_RateErr (p0 : Int × Int) : Int := v_rerr p0
abbrev qre_ref05_RateErr (p0 : Int × Int) : List Prop := [p0.2 > 0 → v_gok p0.1 p0.2]
theorem pp_ref05_RateErr (p0 : Int × Int) (hq : ∀ p ∈ qre_ref05_RateErr p0, p) : ∀ p ∈ pre_ref05_RateErr p0, p := hq
theorem tt_ref05_RateErr (p0 : Int × Int) (_ : ∀ p ∈ qre_ref05_RateErr p0, p) : s_ref05_RateErr p0 = t_ref05_RateErr p0 := tx_rerr2 p0

abbrev con_ref05_RateErr : Con := ⟨P_ref05_RateErr, R_ref05_RateErr, fun x => qre_ref05_RateErr x, fun x => t_ref05_RateErr x⟩
theorem ok_ref05_RateErr : ConOk Tryd.prog 54 con_ref05_RateErr := ⟨k_ref05_RateErr, fun x hx => ret_tf (ps := P_ref05_RateErr) (rs := R_ref05_RateErr) (x := x) (y := t_ref05_RateErr x) e_ref05_RateErr hC_ref05_RateErr (tf_of (w_ref05_RateErr_eq x (fun z => z = t_ref05_RateErr x)) (d_ref05_RateErr x (fun z => z = t_ref05_RateErr x) (pp_ref05_RateErr x hx) (tt_ref05_RateErr x hx)))⟩
/- ref05_CopyVisits -/
def C_ref05_CopyVisits : Cons := []
theorem hC_ref05_CopyVisits : ConsOk Tryd.prog C_ref05_CopyVisits := ConsOk.nil
def w_ref05_CopyVisits (p0 : (List (Int × (Int × Int)))) (K : (List (Int × (Int × Int))) → Prop) : Prop :=
  (((((List.length ([] : List (Int × (Int × Int)))) + (List.length p0)) * 24) ≤ 140737488355328) ∧
 (K (([] : List (Int × (Int × Int))) ++ p0)))
set_option maxHeartbeats 4000000 in
theorem w_ref05_CopyVisits_eq (p0 : (List (Int × (Int × Int)))) (K : (List (Int × (Int × Int))) → Prop) : tfn F_ref05_CopyVisits A_ref05_CopyVisits C_ref05_CopyVisits P_ref05_CopyVisits R_ref05_CopyVisits p0 K = w_ref05_CopyVisits p0 K := by kernel_rfl
def s_ref05_CopyVisits (p0 : (List (Int × (Int × Int)))) : (List (Int × (Int × Int))) :=
 (([] : List (Int × (Int × Int))) ++ p0)
abbrev pre_ref05_CopyVisits (p0 : (List (Int × (Int × Int)))) : List Prop := [((((List.length ([] : List (Int × (Int × Int)))) + (List.length p0)) * 24) ≤ 140737488355328)]
set_option maxHeartbeats 4000000 in
theorem d_ref05_CopyVisits (p0 : (List (Int × (Int × Int)))) (K : (List (Int × (Int × Int))) → Prop) (hp : ∀ p ∈ pre_ref05_CopyVisits p0, p) (h : K (s_ref05_CopyVisits p0)) : w_ref05_CopyVisits p0 K := by
 unfold w_ref05_CopyVisits
 unfold s_ref05_CopyVisits at h
 obtain ⟨hp0, _⟩ := conj_of hp
 exact ⟨(hp0), h⟩
abbrev t_ref05_CopyVisits (p0 : List (Int × (Int × Int))) : List (Int × (Int × Int)) := p0
abbrev qre_ref05_CopyVisits (p0 : List (Int × (Int × Int))) : List Prop := [p0.length ≤ 1000000]
theorem pp_ref05_CopyVisits (p0 : List (Int × (Int × Int))) (hq : ∀ p ∈ qre_ref05_CopyVisits p0, p) : ∀ p ∈ pre_ref05_CopyVisits p0, p := by
 simp only [pre_ref05_CopyVisits, List.forall_mem_cons]
 have := (conj_of hq).1
 exact ⟨by simp; omega, by simp⟩
theorem tt_ref05_CopyVisits (p0 : List (Int × (Int × Int))) (hq : ∀ p ∈ qre_ref05_CopyVisits p0, p) : s_ref05_CopyVisits p0 = t_ref05_CopyVisits p0 := by
 rfl

abbrev con_ref05_CopyVisits : Con := ⟨P_ref05_CopyVisits, R_ref05_CopyVisits, fun x => qre_ref05_CopyVisits x, fun x => t_ref05_CopyVisits x⟩
theorem ok_ref05_CopyVisits : ConOk Tryd.prog 49 con_ref05_CopyVisits := ⟨k_ref05_CopyVisits, fun x hx => ret_tf (ps := P_ref05_CopyVisits) (rs := R_ref05_CopyVisits) (x := x) (y := t_ref05_CopyVisits x) e_ref05_CopyVisits hC_ref05_CopyVisits (tf_of (w_ref05_CopyVisits_eq x (fun z => z = t_ref05_CopyVisits x)) (d_ref05_CopyVisits x (fun z => z = t_ref05_CopyVisits x) (pp_ref05_CopyVisits x hx) (tt_ref05_CopyVisits x hx)))⟩
/- cmp_isNaNint -/
def C_cmp_isNaNint : Cons := []
theorem hC_cmp_isNaNint : ConsOk Tryd.prog C_cmp_isNaNint := ConsOk.nil
def w_cmp_isNaNint (p0 : Int) (K : Bool → Prop) : Prop :=
  (K (p0 != p0))
set_option maxHeartbeats 4000000 in
theorem w_cmp_isNaNint_eq (p0 : Int) (K : Bool → Prop) : tfn F_cmp_isNaNint A_cmp_isNaNint C_cmp_isNaNint P_cmp_isNaNint R_cmp_isNaNint p0 K = w_cmp_isNaNint p0 K := by kernel_rfl
def s_cmp_isNaNint (p0 : Int) : Bool :=
 (p0 != p0)
abbrev pre_cmp_isNaNint (p0 : Int) : List Prop := []
set_option maxHeartbeats 4000000 in
theorem d_cmp_isNaNint (p0 : Int) (K : Bool → Prop) (hp : ∀ p ∈ pre_cmp_isNaNint p0, p) (h : K (s_cmp_isNaNint p0)) : w_cmp_isNaNint p0 K := by
 unfold w_cmp_isNaNint
 unfold s_cmp_isNaNint at h
 exact h
abbrev con_cmp_isNaNint : Con := ⟨P_cmp_isNaNint, R_cmp_isNaNint, fun x => pre_cmp_isNaNint x, fun x => s_cmp_isNaNint x⟩
theorem ok_cmp_isNaNint : ConOk Tryd.prog 140 con_cmp_isNaNint := ⟨k_cmp_isNaNint, fun x hx => ret_tf (ps := P_cmp_isNaNint) (rs := R_cmp_isNaNint) (x := x) (y := s_cmp_isNaNint x) e_cmp_isNaNint hC_cmp_isNaNint (tf_of (w_cmp_isNaNint_eq x (fun z => z = s_cmp_isNaNint x)) (d_cmp_isNaNint x (fun z => z = s_cmp_isNaNint x) hx rfl))⟩
/- cmp_Compareint -/
def C_cmp_Compareint : Cons := [(140, [], con_cmp_isNaNint)]
theorem hC_cmp_Compareint : ConsOk Tryd.prog C_cmp_Compareint := ConsOk.cons ok_cmp_isNaNint <| ConsOk.nil
def w_cmp_Compareint (p0 : Int) (p1 : Int) (K : Int → Prop) : Prop :=
  ((((s_cmp_isNaNint p0) = true) →
 ((((s_cmp_isNaNint p1) = true) →
  (K (0 : Int))) ∧
  (((s_cmp_isNaNint p1) = false) →
  (K (-1 : Int))))) ∧
 (((s_cmp_isNaNint p0) = false) →
 ((((s_cmp_isNaNint p1) = true) →
  (K (1 : Int))) ∧
  (((s_cmp_isNaNint p1) = false) →
  ((((decide (p0 < p1)) = true) →
   (K (-1 : Int))) ∧
   (((decide (p0 < p1)) = false) →
   ((((decide (p0 > p1)) = true) →
    (K (1 : Int))) ∧
    (((decide (p0 > p1)) = false) →
    (K (0 : Int))))))))))
set_option maxHeartbeats 4000000 in
theorem w_cmp_Compareint_eq (p0 : Int) (p1 : Int) (K : Int → Prop) : tfn F_cmp_Compareint A_cmp_Compareint C_cmp_Compareint P_cmp_Compareint R_cmp_Compareint (p0, p1) K = w_cmp_Compareint p0 p1 K := by kernel_rfl
def s_cmp_Compareint (p0 : Int) (p1 : Int) : Int :=
 (cond (s_cmp_isNaNint p0) (cond (s_cmp_isNaNint p1) (0 : Int)
  (-1 : Int))
  (cond (s_cmp_isNaNint p1) (1 : Int)
  (cond (decide (p0 < p1)) (-1 : Int)
  (cond (decide (p0 > p1)) (1 : Int)
  (0 : Int)))))
abbrev pre_cmp_Compareint (p0 : Int) (p1 : Int) : List Prop := []
set_option maxHeartbeats 4000000 in
theorem d_cmp_Compareint (p0 : Int) (p1 : Int) (K : Int → Prop) (hp : ∀ p ∈ pre_cmp_Compareint p0 p1, p) (h : K (s_cmp_Compareint p0 p1)) : w_cmp_Compareint p0 p1 K := by
 unfold w_cmp_Compareint
 unfold s_cmp_Compareint at h
 exact (br' h (fun e0 h => (br' h (fun e1 h => h)
  (fun e1 h => h)))
  (fun e0 h => (br' h (fun e2 h => h)
  (fun e2 h => (br' h (fun e3 h => h)
  (fun e3 h => (br' h (fun e4 h => h)
  (fun e4 h => h))))))))
abbrev con_cmp_Compareint : Con := ⟨P_cmp_Compareint, R_cmp_Compareint, fun x => pre_cmp_Compareint x.1 x.2, fun x => s_cmp_Compareint x.1 x.2⟩
theorem ok_cmp_Compareint : ConOk Tryd.prog 135 con_cmp_Compareint := ⟨k_cmp_Compareint, fun x hx => ret_tf (ps := P_cmp_Compareint) (rs := R_cmp_Compareint) (x := x) (y := s_cmp_Compareint x.1 x.2) e_cmp_Compareint hC_cmp_Compareint (tf_of (w_cmp_Compareint_eq x.1 x.2 (fun z => z = s_cmp_Compareint x.1 x.2)) (d_cmp_Compareint x.1 x.2 (fun z => z = s_cmp_Compareint x.1 x.2) hx rfl))⟩
/- gravity_compare -/
def C_gravity_compare : Cons := [(135, [], con_cmp_Compareint)]
theorem hC_gravity_compare : ConsOk Tryd.prog C_gravity_compare := ConsOk.cons ok_cmp_Compareint <| ConsOk.nil
def w_gravity_compare (p0 : (Int × Int)) (p1 : (Int × Int)) (K : Int → Prop) : Prop :=
  (K (s_cmp_Compareint (IntKind.i64.wrap (p0.1 * p1.2)) (IntKind.i64.wrap (p1.1 * p0.2))))
set_option maxHeartbeats 4000000 in
theorem w_gravity_compare_eq (p0 : (Int × Int)) (p1 : (Int × Int)) (K : Int → Prop) : tfn F_gravity_compare A_gravity_compare C_gravity_compare P_gravity_compare R_gravity_compare (p0, p1) K = w_gravity_compare p0 p1 K := by kernel_rfl
def s_gravity_compare (p0 : (Int × Int)) (p1 : (Int × Int)) : Int :=
 (s_cmp_Compareint (IntKind.i64.wrap (p0.1 * p1.2)) (IntKind.i64.wrap (p1.1 * p0.2)))
abbrev pre_gravity_compare (p0 : (Int × Int)) (p1 : (Int × Int)) : List Prop := []
set_option maxHeartbeats 4000000 in
theorem d_gravity_compare (p0 : (Int × Int)) (p1 : (Int × Int)) (K : Int → Prop) (hp : ∀ p ∈ pre_gravity_compare p0 p1, p) (h : K (s_gravity_compare p0 p1)) : w_gravity_compare p0 p1 K := by
 unfold w_gravity_compare
 unfold s_gravity_compare at h
 exact h
abbrev con_gravity_compare : Con := ⟨P_gravity_compare, R_gravity_compare, fun x => pre_gravity_compare x.1 x.2, fun x => s_gravity_compare x.1 x.2⟩
theorem ok_gravity_compare : ConOk Tryd.prog 112 con_gravity_compare := ⟨k_gravity_compare, fun x hx => ret_tf (ps := P_gravity_compare) (rs := R_gravity_compare) (x := x) (y := s_gravity_compare x.1 x.2) e_gravity_compare hC_gravity_compare (tf_of (w_gravity_compare_eq x.1 x.2 (fun z => z = s_gravity_compare x.1 x.2)) (d_gravity_compare x.1 x.2 (fun z => z = s_gravity_compare x.1 x.2) hx rfl))⟩
/-- A fraction is at most another one. -/
abbrev v_le (x y : Int × Int) : Prop := x.1 * y.2 ≤ y.1 * x.2
/-- Fractions whose products fit. -/
structure v_fb (x : Int × Int) : Prop where
 n : -1000000000 ≤ x.1 ∧ x.1 ≤ 1000000000
 d : 0 < x.2 ∧ x.2 ≤ 1000000000
theorem v_fb.mul {x y : Int × Int} (hx : v_fb x) (hy : v_fb y) : IntKind.i64.wrap (x.1 * y.2) = x.1 * y.2 := by
 have := mul_abs hx.n.1 hx.n.2 (show -1000000000 ≤ y.2 by have := hy.d; omega) hy.d.2
 exact wrap_id (by omega) (by omega)
theorem tx_cgt {x y : Int × Int} (hx : v_fb x) (hy : v_fb y) : decide (s_gravity_compare x y > 0) = !decide (v_le x y) := by
 unfold s_gravity_compare s_cmp_Compareint s_cmp_isNaNint
 rw [hx.mul hy, hy.mul hx]
 simp only [bne_self_eq_false, cond_false]
 rcases Int.lt_trichotomy (x.1 * y.2) (y.1 * x.2) with c | c | c
 ·rw [decide_eq_true c, decide_eq_true (show v_le x y from Int.le_of_lt c)]; rfl
 ·rw [decide_eq_false (show ¬ x.1 * y.2 < y.1 * x.2 by omega), decide_eq_false (show ¬ x.1 * y.2 > y.1 * x.2 by omega), decide_eq_true (show v_le x y from Int.le_of_eq c)]; rfl
 ·rw [decide_eq_false (show ¬ x.1 * y.2 < y.1 * x.2 by omega), decide_eq_true (show x.1 * y.2 > y.1 * x.2 from c), decide_eq_false (show ¬ v_le x y from Int.not_le.2 c)]; rfl
theorem tx_clt {x y : Int × Int} (hx : v_fb x) (hy : v_fb y) : decide (s_gravity_compare x y < 0) = !decide (v_le y x) := by
 unfold s_gravity_compare s_cmp_Compareint s_cmp_isNaNint
 rw [hx.mul hy, hy.mul hx]
 simp only [bne_self_eq_false, cond_false]
 rcases Int.lt_trichotomy (x.1 * y.2) (y.1 * x.2) with c | c | c
 ·rw [decide_eq_true c, decide_eq_false (show ¬ v_le y x from Int.not_le.2 c)]; rfl
 ·rw [decide_eq_false (show ¬ x.1 * y.2 < y.1 * x.2 by omega), decide_eq_false (show ¬ x.1 * y.2 > y.1 * x.2 by omega), decide_eq_true (show v_le y x from Int.le_of_eq c.symm)]; rfl
 ·rw [decide_eq_false (show ¬ x.1 * y.2 < y.1 * x.2 by omega), decide_eq_true (show x.1 * y.2 > y.1 * x.2 from c), decide_eq_true (show v_le y x from Int.le_of_lt c)]; rfl
theorem v_le_trans {x y z : Int × Int} (hx : 0 < x.2) (hy : 0 < y.2) (hz : 0 < z.2) (h1 : v_le x y) (h2 : v_le y z) : v_le x z := by
 have a := Int.mul_le_mul_of_nonneg_right h1 (Int.le_of_lt hz)
 have b := Int.mul_le_mul_of_nonneg_right h2 (Int.le_of_lt hx)
 refine Int.le_of_mul_le_mul_right (a := y.2) ?_ hy
 have e1 : x.1 * z.2 * y.2 = x.1 * y.2 * z.2 := by rw [Int.mul_assoc, Int.mul_comm z.2, ← Int.mul_assoc]
 have e2 : z.1 * x.2 * y.2 = z.1 * y.2 * x.2 := by rw [Int.mul_assoc, Int.mul_comm x.2, ← Int.mul_assoc]
 have e3 : y.1 * x.2 * z.2 = y.1 * z.2 * x.2 := by rw [Int.mul_assoc, Int.mul_comm x.2, ← Int.mul_assoc]
 rw [e1, e2]; rw [e3] at a; exact Int.le_trans a b
theorem v_le_total (x y : Int × Int) : v_le x y ∨ v_le y x := Int.le_total _ _
/-- Lowest terms do not matter. -/
theorem v_le_low {x y : Int × Int} (hx : 0 < x.2) (hy : 0 < y.2) : v_le (v_low x) (v_low y) ↔ v_le x y := by
 obtain ⟨a, b⟩ := x
 obtain ⟨c, d⟩ := y
 simp only at hx hy
 have g1 := v_gcd_pos (a := a) (b := b) (by omega)
 have g2 := v_gcd_pos (a := c) (b := d) (by omega)
 have e1 := Int.ediv_mul_cancel (v_gcd_dvd_left a b)
 have e2 := Int.ediv_mul_cancel (v_gcd_dvd_right a b)
 have e3 := Int.ediv_mul_cancel (v_gcd_dvd_left c d)
 have e4 := Int.ediv_mul_cancel (v_gcd_dvd_right c d)
 simp only [v_le, v_low]
 generalize a / v_gcd a b = p at *
 generalize b / v_gcd a b = q at *
 generalize c / v_gcd c d = r at *
 generalize d / v_gcd c d = s at *
 generalize v_gcd a b = g at *
 generalize v_gcd c d = h at *
 subst e1 e2 e3 e4
 have f1 : p * g * (s * h) = p * s * (g * h) := by grind
 have f2 : r * h * (q * g) = r * q * (g * h) := by grind
 rw [f1, f2]
 have hgh : 0 < g * h := Int.mul_pos g1 g2
 exact ⟨fun k => Int.mul_le_mul_of_nonneg_right k (Int.le_of_lt hgh), fun k => Int.le_of_mul_le_mul_right k hgh⟩
theorem v_low_pos {x : Int × Int} (hx : 0 < x.2) : 0 < (v_low x).2 := by
 have hg := v_gcd_pos (a := x.1) (b := x.2) (by omega)
 exact Int.ediv_pos_of_pos_of_dvd hx (by omega) (v_gcd_dvd_right x.1 x.2)
theorem v_low_fb {x : Int × Int} (h : v_fb x) : v_fb (v_low x) := by
 have hp := v_low_pos h.d.1
 have e1 := Int.tdiv_eq_ediv_of_dvd (v_gcd_dvd_left x.1 x.2)
 have e2 := Int.tdiv_eq_ediv_of_dvd (v_gcd_dvd_right x.1 x.2)
 have n1 : (x.1.tdiv (v_gcd x.1 x.2)).natAbs ≤ x.1.natAbs := by rw [Int.natAbs_tdiv]; exact Nat.div_le_self _ _
 have n2 : (x.2.tdiv (v_gcd x.1 x.2)).natAbs ≤ x.2.natAbs := by rw [Int.natAbs_tdiv]; exact Nat.div_le_self _ _
 rw [e1] at n1
 rw [e2] at n2
 obtain ⟨h1, h2⟩ := h
 unfold v_low at *
 exact ⟨by simp only; omega, by simp only at *; omega⟩
/- gravity_rates -/
def C_gravity_rates : Cons := [(112, [], con_gravity_compare)]
theorem hC_gravity_rates : ConsOk Tryd.prog C_gravity_rates := ConsOk.cons ok_gravity_compare <| ConsOk.nil
def w_gravity_rates (p0 : (List (Int × (Int × Int)))) (K : ((Int × Int) × (Int × Int)) → Prop) : Prop :=
  (∃ n0, (loopP (fun (y1 : (Int × (Int × (Int × (Int × Int))))) k2 =>
  ((((decide (y1.1 < (((List.length p0) : Nat) : Int))) = true) →
  (((0 : Int) ≤ y1.1) ∧
   ((y1.1 < (((List.length p0) : Nat) : Int)) ∧
   (((0 : Int) ≤ y1.1) ∧
   ((y1.1 ≤ (((List.length p0) : Nat) : Int)) ∧
   (∃ n3, (loopP (fun (y4 : (Int × (Int × (Int × (Int × Int))))) k5 =>
    ((((decide (y4.1 < (((List.length (List.take (Int.toNat y1.1) p0)) : Nat) : Int))) = true) →
    (((0 : Int) ≤ y4.1) ∧
     ((y4.1 < (((List.length (List.take (Int.toNat y1.1) p0)) : Nat) : Int)) ∧
     ((((decide (y1.1 > (1 : Int))) = false) →
     ((decide (y1.1 > (1 : Int))) = (decide (y1.1 > (1 : Int))))) ∧
     (((decide (y1.1 > (1 : Int))) = (decide (y1.1 > (1 : Int)))) ∧
     ((((!(cond (decide (y1.1 > (1 : Int))) true (decide (y4.1 > (0 : Int))))) = false) →
     ((!(cond (decide (y1.1 > (1 : Int))) true (decide (y4.1 > (0 : Int))))) = (!(cond (decide (y1.1 > (1 : Int))) true (decide (y4.1 > (0 : Int))))))) ∧
     ((((!(cond (decide (y1.1 > (1 : Int))) true (decide (y4.1 > (0 : Int))))) = false) →
     ((!(cond (decide (y1.1 > (1 : Int))) true (decide (y4.1 > (0 : Int))))) = (!(cond (decide (y1.1 > (1 : Int))) true (decide (y4.1 > (0 : Int))))))) ∧
     ((((!(cond (decide (y1.1 > (1 : Int))) true (decide (y4.1 > (0 : Int))))) = false) →
     ((!(cond (decide (y1.1 > (1 : Int))) true (decide (y4.1 > (0 : Int))))) = (!(cond (decide (y1.1 > (1 : Int))) true (decide (y4.1 > (0 : Int))))))) ∧
     ((((!(cond (decide (y1.1 > (1 : Int))) true (decide (y4.1 > (0 : Int))))) = false) →
     ((!(cond (decide (y1.1 > (1 : Int))) true (decide (y4.1 > (0 : Int))))) = (!(cond (decide (y1.1 > (1 : Int))) true (decide (y4.1 > (0 : Int))))))) ∧
     (((!(cond (decide (y1.1 > (1 : Int))) true (decide (y4.1 > (0 : Int))))) = (!(cond (decide (y1.1 > (1 : Int))) true (decide (y4.1 > (0 : Int)))))) ∧
     ((((cond (!(cond (decide (y1.1 > (1 : Int))) true (decide (y4.1 > (0 : Int))))) true (decide ((s_gravity_compare ((IntKind.i64.wrap ((List.getD p0 (Int.toNat y1.1) ((0 : Int), ((0 : Int), (0 : Int)))).2.1 - (List.getD (List.take (Int.toNat y1.1) p0) (Int.toNat y4.1) ((0 : Int), ((0 : Int), (0 : Int)))).2.2)), (IntKind.i64.wrap ((List.getD p0 (Int.toNat y1.1) ((0 : Int), ((0 : Int), (0 : Int)))).1 - (List.getD (List.take (Int.toNat y1.1) p0) (Int.toNat y4.1) ((0 : Int), ((0 : Int), (0 : Int)))).1))) (y4.2.1, y4.2.2.1)) > (0 : Int)))) = true) →
     ((((!(cond (decide (y1.1 > (1 : Int))) true (decide (y4.1 > (0 : Int))))) = false) →
      ((!(cond (decide (y1.1 > (1 : Int))) true (decide (y4.1 > (0 : Int))))) = (!(cond (decide (y1.1 > (1 : Int))) true (decide (y4.1 > (0 : Int))))))) ∧
      ((((!(cond (decide (y1.1 > (1 : Int))) true (decide (y4.1 > (0 : Int))))) = false) →
      ((!(cond (decide (y1.1 > (1 : Int))) true (decide (y4.1 > (0 : Int))))) = (!(cond (decide (y1.1 > (1 : Int))) true (decide (y4.1 > (0 : Int))))))) ∧
      ((((!(cond (decide (y1.1 > (1 : Int))) true (decide (y4.1 > (0 : Int))))) = false) →
      ((!(cond (decide (y1.1 > (1 : Int))) true (decide (y4.1 > (0 : Int))))) = (!(cond (decide (y1.1 > (1 : Int))) true (decide (y4.1 > (0 : Int))))))) ∧
      ((((!(cond (decide (y1.1 > (1 : Int))) true (decide (y4.1 > (0 : Int))))) = false) →
      ((!(cond (decide (y1.1 > (1 : Int))) true (decide (y4.1 > (0 : Int))))) = (!(cond (decide (y1.1 > (1 : Int))) true (decide (y4.1 > (0 : Int))))))) ∧
      (((!(cond (decide (y1.1 > (1 : Int))) true (decide (y4.1 > (0 : Int))))) = (!(cond (decide (y1.1 > (1 : Int))) true (decide (y4.1 > (0 : Int)))))) ∧
      ((((cond (!(cond (decide (y1.1 > (1 : Int))) true (decide (y4.1 > (0 : Int))))) true (decide ((s_gravity_compare ((IntKind.i64.wrap ((List.getD p0 (Int.toNat y1.1) ((0 : Int), ((0 : Int), (0 : Int)))).2.2 - (List.getD (List.take (Int.toNat y1.1) p0) (Int.toNat y4.1) ((0 : Int), ((0 : Int), (0 : Int)))).2.1)), (IntKind.i64.wrap ((List.getD p0 (Int.toNat y1.1) ((0 : Int), ((0 : Int), (0 : Int)))).1 - (List.getD (List.take (Int.toNat y1.1) p0) (Int.toNat y4.1) ((0 : Int), ((0 : Int), (0 : Int)))).1))) y4.2.2.2) < (0 : Int)))) = true) →
      (k5 ((IntKind.i64.wrap (y4.1 + (1 : Int))), ((IntKind.i64.wrap ((List.getD p0 (Int.toNat y1.1) ((0 : Int), ((0 : Int), (0 : Int)))).2.1 - (List.getD (List.take (Int.toNat y1.1) p0) (Int.toNat y4.1) ((0 : Int), ((0 : Int), (0 : Int)))).2.2)), ((IntKind.i64.wrap ((List.getD p0 (Int.toNat y1.1) ((0 : Int), ((0 : Int), (0 : Int)))).1 - (List.getD (List.take (Int.toNat y1.1) p0) (Int.toNat y4.1) ((0 : Int), ((0 : Int), (0 : Int)))).1)), ((IntKind.i64.wrap ((List.getD p0 (Int.toNat y1.1) ((0 : Int), ((0 : Int), (0 : Int)))).2.2 - (List.getD (List.take (Int.toNat y1.1) p0) (Int.toNat y4.1) ((0 : Int), ((0 : Int), (0 : Int)))).2.1)), (IntKind.i64.wrap ((List.getD p0 (Int.toNat y1.1) ((0 : Int), ((0 : Int), (0 : Int)))).1 - (List.getD (List.take (Int.toNat y1.1) p0) (Int.toNat y4.1) ((0 : Int), ((0 : Int), (0 : Int)))).1)))))))) ∧
      (((cond (!(cond (decide (y1.1 > (1 : Int))) true (decide (y4.1 > (0 : Int))))) true (decide ((s_gravity_compare ((IntKind.i64.wrap ((List.getD p0 (Int.toNat y1.1) ((0 : Int), ((0 : Int), (0 : Int)))).2.2 - (List.getD (List.take (Int.toNat y1.1) p0) (Int.toNat y4.1) ((0 : Int), ((0 : Int), (0 : Int)))).2.1)), (IntKind.i64.wrap ((List.getD p0 (Int.toNat y1.1) ((0 : Int), ((0 : Int), (0 : Int)))).1 - (List.getD (List.take (Int.toNat y1.1) p0) (Int.toNat y4.1) ((0 : Int), ((0 : Int), (0 : Int)))).1))) y4.2.2.2) < (0 : Int)))) = false) →
      (k5 ((IntKind.i64.wrap (y4.1 + (1 : Int))), ((IntKind.i64.wrap ((List.getD p0 (Int.toNat y1.1) ((0 : Int), ((0 : Int), (0 : Int)))).2.1 - (List.getD (List.take (Int.toNat y1.1) p0) (Int.toNat y4.1) ((0 : Int), ((0 : Int), (0 : Int)))).2.2)), ((IntKind.i64.wrap ((List.getD p0 (Int.toNat y1.1) ((0 : Int), ((0 : Int), (0 : Int)))).1 - (List.getD (List.take (Int.toNat y1.1) p0) (Int.toNat y4.1) ((0 : Int), ((0 : Int), (0 : Int)))).1)), y4.2.2.2)))))))))))) ∧
     (((cond (!(cond (decide (y1.1 > (1 : Int))) true (decide (y4.1 > (0 : Int))))) true (decide ((s_gravity_compare ((IntKind.i64.wrap ((List.getD p0 (Int.toNat y1.1) ((0 : Int), ((0 : Int), (0 : Int)))).2.1 - (List.getD (List.take (Int.toNat y1.1) p0) (Int.toNat y4.1) ((0 : Int), ((0 : Int), (0 : Int)))).2.2)), (IntKind.i64.wrap ((List.getD p0 (Int.toNat y1.1) ((0 : Int), ((0 : Int), (0 : Int)))).1 - (List.getD (List.take (Int.toNat y1.1) p0) (Int.toNat y4.1) ((0 : Int), ((0 : Int), (0 : Int)))).1))) (y4.2.1, y4.2.2.1)) > (0 : Int)))) = false) →
     ((((!(cond (decide (y1.1 > (1 : Int))) true (decide (y4.1 > (0 : Int))))) = false) →
      ((!(cond (decide (y1.1 > (1 : Int))) true (decide (y4.1 > (0 : Int))))) = (!(cond (decide (y1.1 > (1 : Int))) true (decide (y4.1 > (0 : Int))))))) ∧
      ((((!(cond (decide (y1.1 > (1 : Int))) true (decide (y4.1 > (0 : Int))))) = false) →
      ((!(cond (decide (y1.1 > (1 : Int))) true (decide (y4.1 > (0 : Int))))) = (!(cond (decide (y1.1 > (1 : Int))) true (decide (y4.1 > (0 : Int))))))) ∧
      ((((!(cond (decide (y1.1 > (1 : Int))) true (decide (y4.1 > (0 : Int))))) = false) →
      ((!(cond (decide (y1.1 > (1 : Int))) true (decide (y4.1 > (0 : Int))))) = (!(cond (decide (y1.1 > (1 : Int))) true (decide (y4.1 > (0 : Int))))))) ∧
      ((((!(cond (decide (y1.1 > (1 : Int))) true (decide (y4.1 > (0 : Int))))) = false) →
      ((!(cond (decide (y1.1 > (1 : Int))) true (decide (y4.1 > (0 : Int))))) = (!(cond (decide (y1.1 > (1 : Int))) true (decide (y4.1 > (0 : Int))))))) ∧
      (((!(cond (decide (y1.1 > (1 : Int))) true (decide (y4.1 > (0 : Int))))) = (!(cond (decide (y1.1 > (1 : Int))) true (decide (y4.1 > (0 : Int)))))) ∧
      ((((cond (!(cond (decide (y1.1 > (1 : Int))) true (decide (y4.1 > (0 : Int))))) true (decide ((s_gravity_compare ((IntKind.i64.wrap ((List.getD p0 (Int.toNat y1.1) ((0 : Int), ((0 : Int), (0 : Int)))).2.2 - (List.getD (List.take (Int.toNat y1.1) p0) (Int.toNat y4.1) ((0 : Int), ((0 : Int), (0 : Int)))).2.1)), (IntKind.i64.wrap ((List.getD p0 (Int.toNat y1.1) ((0 : Int), ((0 : Int), (0 : Int)))).1 - (List.getD (List.take (Int.toNat y1.1) p0) (Int.toNat y4.1) ((0 : Int), ((0 : Int), (0 : Int)))).1))) y4.2.2.2) < (0 : Int)))) = true) →
      (k5 ((IntKind.i64.wrap (y4.1 + (1 : Int))), (y4.2.1, (y4.2.2.1, ((IntKind.i64.wrap ((List.getD p0 (Int.toNat y1.1) ((0 : Int), ((0 : Int), (0 : Int)))).2.2 - (List.getD (List.take (Int.toNat y1.1) p0) (Int.toNat y4.1) ((0 : Int), ((0 : Int), (0 : Int)))).2.1)), (IntKind.i64.wrap ((List.getD p0 (Int.toNat y1.1) ((0 : Int), ((0 : Int), (0 : Int)))).1 - (List.getD (List.take (Int.toNat y1.1) p0) (Int.toNat y4.1) ((0 : Int), ((0 : Int), (0 : Int)))).1)))))))) ∧
      (((cond (!(cond (decide (y1.1 > (1 : Int))) true (decide (y4.1 > (0 : Int))))) true (decide ((s_gravity_compare ((IntKind.i64.wrap ((List.getD p0 (Int.toNat y1.1) ((0 : Int), ((0 : Int), (0 : Int)))).2.2 - (List.getD (List.take (Int.toNat y1.1) p0) (Int.toNat y4.1) ((0 : Int), ((0 : Int), (0 : Int)))).2.1)), (IntKind.i64.wrap ((List.getD p0 (Int.toNat y1.1) ((0 : Int), ((0 : Int), (0 : Int)))).1 - (List.getD (List.take (Int.toNat y1.1) p0) (Int.toNat y4.1) ((0 : Int), ((0 : Int), (0 : Int)))).1))) y4.2.2.2) < (0 : Int)))) = false) →
      (k5 ((IntKind.i64.wrap (y4.1 + (1 : Int))), y4.2))))))))))))))))))))) ∧
    (((decide (y4.1 < (((List.length (List.take (Int.toNat y1.1) p0)) : Nat) : Int))) = false) →
    (k2 ((IntKind.i64.wrap (y1.1 + (1 : Int))), y4.2))))) n3 ((0 : Int), y1.2)))))))) ∧
  (((decide (y1.1 < (((List.length p0) : Nat) : Int))) = false) →
  (K ((y1.2.1, y1.2.2.1), y1.2.2.2))))) n0 ((0 : Int), ((0 : Int), ((0 : Int), ((0 : Int), (0 : Int)))))))
set_option maxHeartbeats 4000000 in
theorem w_gravity_rates_eq (p0 : (List (Int × (Int × Int)))) (K : ((Int × Int) × (Int × Int)) → Prop) : tfn F_gravity_rates A_gravity_rates C_gravity_rates P_gravity_rates R_gravity_rates p0 K = w_gravity_rates p0 K := by kernel_rfl
def st_gravity_rates_0 (p0 : (List (Int × (Int × Int)))) (y0 : (Int × (Int × (Int × (Int × Int))))) (y2 : (Int × (Int × (Int × (Int × Int))))) : (Int × (Int × (Int × (Int × Int)))) ⊕ ((Int × (Int × (Int × (Int × Int)))) ⊕ ((Int × Int) × (Int × Int))) :=
 (cond (decide (y2.1 < (((List.length (List.take (Int.toNat y0.1) p0)) : Nat) : Int))) (cond (cond (!(cond (decide (y0.1 > (1 : Int))) true (decide (y2.1 > (0 : Int))))) true (decide ((s_gravity_compare ((IntKind.i64.wrap ((List.getD p0 (Int.toNat y0.1) ((0 : Int), ((0 : Int), (0 : Int)))).2.1 - (List.getD (List.take (Int.toNat y0.1) p0) (Int.toNat y2.1) ((0 : Int), ((0 : Int), (0 : Int)))).2.2)), (IntKind.i64.wrap ((List.getD p0 (Int.toNat y0.1) ((0 : Int), ((0 : Int), (0 : Int)))).1 - (List.getD (List.take (Int.toNat y0.1) p0) (Int.toNat y2.1) ((0 : Int), ((0 : Int), (0 : Int)))).1))) (y2.2.1, y2.2.2.1)) > (0 : Int)))) (cond (cond (!(cond (decide (y0.1 > (1 : Int))) true (decide (y2.1 > (0 : Int))))) true (decide ((s_gravity_compare ((IntKind.i64.wrap ((List.getD p0 (Int.toNat y0.1) ((0 : Int), ((0 : Int), (0 : Int)))).2.2 - (List.getD (List.take (Int.toNat y0.1) p0) (Int.toNat y2.1) ((0 : Int), ((0 : Int), (0 : Int)))).2.1)), (IntKind.i64.wrap ((List.getD p0 (Int.toNat y0.1) ((0 : Int), ((0 : Int), (0 : Int)))).1 - (List.getD (List.take (Int.toNat y0.1) p0) (Int.toNat y2.1) ((0 : Int), ((0 : Int), (0 : Int)))).1))) y2.2.2.2) < (0 : Int)))) (Sum.inl ((IntKind.i64.wrap (y2.1 + (1 : Int))), ((IntKind.i64.wrap ((List.getD p0 (Int.toNat y0.1) ((0 : Int), ((0 : Int), (0 : Int)))).2.1 - (List.getD (List.take (Int.toNat y0.1) p0) (Int.toNat y2.1) ((0 : Int), ((0 : Int), (0 : Int)))).2.2)), ((IntKind.i64.wrap ((List.getD p0 (Int.toNat y0.1) ((0 : Int), ((0 : Int), (0 : Int)))).1 - (List.getD (List.take (Int.toNat y0.1) p0) (Int.toNat y2.1) ((0 : Int), ((0 : Int), (0 : Int)))).1)), ((IntKind.i64.wrap ((List.getD p0 (Int.toNat y0.1) ((0 : Int), ((0 : Int), (0 : Int)))).2.2 - (List.getD (List.take (Int.toNat y0.1) p0) (Int.toNat y2.1) ((0 : Int), ((0 : Int), (0 : Int)))).2.1)), (IntKind.i64.wrap ((List.getD p0 (Int.toNat y0.1) ((0 : Int), ((0 : Int), (0 : Int)))).1 - (List.getD (List.take (Int.toNat y0.1) p0) (Int.toNat y2.1) ((0 : Int), ((0 : Int), (0 : Int)))).1)))))))
  (Sum.inl ((IntKind.i64.wrap (y2.1 + (1 : Int))), ((IntKind.i64.wrap ((List.getD p0 (Int.toNat y0.1) ((0 : Int), ((0 : Int), (0 : Int)))).2.1 - (List.getD (List.take (Int.toNat y0.1) p0) (Int.toNat y2.1) ((0 : Int), ((0 : Int), (0 : Int)))).2.2)), ((IntKind.i64.wrap ((List.getD p0 (Int.toNat y0.1) ((0 : Int), ((0 : Int), (0 : Int)))).1 - (List.getD (List.take (Int.toNat y0.1) p0) (Int.toNat y2.1) ((0 : Int), ((0 : Int), (0 : Int)))).1)), y2.2.2.2)))))
  (cond (cond (!(cond (decide (y0.1 > (1 : Int))) true (decide (y2.1 > (0 : Int))))) true (decide ((s_gravity_compare ((IntKind.i64.wrap ((List.getD p0 (Int.toNat y0.1) ((0 : Int), ((0 : Int), (0 : Int)))).2.2 - (List.getD (List.take (Int.toNat y0.1) p0) (Int.toNat y2.1) ((0 : Int), ((0 : Int), (0 : Int)))).2.1)), (IntKind.i64.wrap ((List.getD p0 (Int.toNat y0.1) ((0 : Int), ((0 : Int), (0 : Int)))).1 - (List.getD (List.take (Int.toNat y0.1) p0) (Int.toNat y2.1) ((0 : Int), ((0 : Int), (0 : Int)))).1))) y2.2.2.2) < (0 : Int)))) (Sum.inl ((IntKind.i64.wrap (y2.1 + (1 : Int))), (y2.2.1, (y2.2.2.1, ((IntKind.i64.wrap ((List.getD p0 (Int.toNat y0.1) ((0 : Int), ((0 : Int), (0 : Int)))).2.2 - (List.getD (List.take (Int.toNat y0.1) p0) (Int.toNat y2.1) ((0 : Int), ((0 : Int), (0 : Int)))).2.1)), (IntKind.i64.wrap ((List.getD p0 (Int.toNat y0.1) ((0 : Int), ((0 : Int), (0 : Int)))).1 - (List.getD (List.take (Int.toNat y0.1) p0) (Int.toNat y2.1) ((0 : Int), ((0 : Int), (0 : Int)))).1)))))))
  (Sum.inl ((IntKind.i64.wrap (y2.1 + (1 : Int))), y2.2))))
  (Sum.inr (Sum.inl ((IntKind.i64.wrap (y0.1 + (1 : Int))), y2.2))))
abbrev sp_gravity_rates_0 (p0 : (List (Int × (Int × Int)))) (y0 : (Int × (Int × (Int × (Int × Int))))) (y2 : (Int × (Int × (Int × (Int × Int))))) : List Prop := [(((decide (y2.1 < (((List.length (List.take (Int.toNat y0.1) p0)) : Nat) : Int))) = true) → ((0 : Int) ≤ y2.1)),
  (((decide (y2.1 < (((List.length (List.take (Int.toNat y0.1) p0)) : Nat) : Int))) = true) → (y2.1 < (((List.length (List.take (Int.toNat y0.1) p0)) : Nat) : Int)))]
def st_gravity_rates_1 (p0 : (List (Int × (Int × Int)))) (y0 : (Int × (Int × (Int × (Int × Int))))) : (Int × (Int × (Int × (Int × Int)))) ⊕ ((Int × Int) × (Int × Int)) :=
 (cond (decide (y0.1 < (((List.length p0) : Nat) : Int))) (lpv (Sum.inr (((0 : Int), (0 : Int)), ((0 : Int), (0 : Int)))) (st_gravity_rates_0 p0 y0) ((0 : Int), y0.2))
  (Sum.inr ((y0.2.1, y0.2.2.1), y0.2.2.2)))
abbrev sp_gravity_rates_1 (p0 : (List (Int × (Int × Int)))) (y0 : (Int × (Int × (Int × (Int × Int))))) : List Prop := [(((decide (y0.1 < (((List.length p0) : Nat) : Int))) = true) → ((0 : Int) ≤ y0.1)),
  (((decide (y0.1 < (((List.length p0) : Nat) : Int))) = true) → (y0.1 < (((List.length p0) : Nat) : Int))),
  (((decide (y0.1 < (((List.length p0) : Nat) : Int))) = true) → (y0.1 ≤ (((List.length p0) : Nat) : Int))),
  (((decide (y0.1 < (((List.length p0) : Nat) : Int))) = true) → (OkL (st_gravity_rates_0 p0 y0) (sp_gravity_rates_0 p0 y0) ((0 : Int), y0.2)))]
def s_gravity_rates (p0 : (List (Int × (Int × Int)))) : ((Int × Int) × (Int × Int)) :=
 (lpv (((0 : Int), (0 : Int)), ((0 : Int), (0 : Int))) (st_gravity_rates_1 p0) ((0 : Int), ((0 : Int), ((0 : Int), ((0 : Int), (0 : Int))))))
abbrev pre_gravity_rates (p0 : (List (Int × (Int × Int)))) : List Prop := [(OkL (st_gravity_rates_1 p0) (sp_gravity_rates_1 p0) ((0 : Int), ((0 : Int), ((0 : Int), ((0 : Int), (0 : Int))))))]
set_option maxHeartbeats 4000000 in
theorem d_gravity_rates (p0 : (List (Int × (Int × Int)))) (K : ((Int × Int) × (Int × Int)) → Prop) (hp : ∀ p ∈ pre_gravity_rates p0, p) (h : K (s_gravity_rates p0)) : w_gravity_rates p0 K := by
 unfold w_gravity_rates
 unfold s_gravity_rates at h
 obtain ⟨hp0, _⟩ := conj_of hp
 exact (loop_gen (hp0) h (fun y0 k0 hp h => by
 unfold st_gravity_rates_1 at h; obtain ⟨hp0, hp1, hp2, hp3, _⟩ := conj_of hp
 exact (br' h (fun e1 h => ⟨(hp0 e1), (hp1 e1), (hp0 e1), (hp2 e1), (loop_gen (hp3 e1) h (fun y2 k2 hp h => by
 unfold st_gravity_rates_0 at h; obtain ⟨hp0, hp1, _⟩ := conj_of hp
 exact (br' h (fun e3 h => ⟨(hp0 e3), (hp1 e3), rf, rfl, rf, rf, rf, rf, rfl, (br' h (fun e4 h => ⟨rf, rf, rf, rf, rfl, (br' h (fun e5 h => h)
  (fun e5 h => h))⟩)
  (fun e4 h => ⟨rf, rf, rf, rf, rfl, (br' h (fun e6 h => h)
  (fun e6 h => h))⟩))⟩)
  (fun e3 h => h))))⟩)
  (fun e1 h => h))))
/-- The ends of the rate of two visits. -/
def v_lo (p0 : List (Int × (Int × Int))) (a b : Nat) : Int × Int := ((p0.getD b (0, (0, 0))).2.1 - (p0.getD a (0, (0, 0))).2.2, (p0.getD b (0, (0, 0))).1 - (p0.getD a (0, (0, 0))).1)
def v_hi (p0 : List (Int × (Int × Int))) (a b : Nat) : Int × Int := ((p0.getD b (0, (0, 0))).2.2 - (p0.getD a (0, (0, 0))).2.1, (p0.getD b (0, (0, 0))).1 - (p0.getD a (0, (0, 0))).1)
theorem v_vok.fb {p0 : List (Int × (Int × Int))} (h : v_vok p0) {a b : Nat} (hab : a < b) (hb : b < p0.length) : v_fb (v_lo p0 a b) ∧ v_fb (v_hi p0 a b) := by
 have h1 := h.all a (by omega)
 have h2 := h.all b hb
 have h3 := h.lt (b - a - 1) a (by omega)
 rw [show a + (b - a - 1) + 1 = b by omega] at h3
 unfold v_lo v_hi
 exact ⟨⟨by simp only; omega, by simp only; omega⟩, ⟨by simp only; omega, by simp only; omega⟩⟩
/-- The greatest lower end and the least upper one of some pairs. -/
structure v_best (p0 : List (Int × (Int × Int))) (D : Nat → Nat → Prop) (c : (Int × Int) × (Int × Int)) : Prop where
 lo : ∃ a b, D a b ∧ c.1 = v_lo p0 a b
 hi : ∃ a b, D a b ∧ c.2 = v_hi p0 a b
 top : ∀ a b, D a b → v_le (v_lo p0 a b) c.1
 bot : ∀ a b, D a b → v_le c.2 (v_hi p0 a b)
/-- What is kept behind one more pair. -/
def v_next (p0 : List (Int × (Int × Int))) (bg : Bool) (c : (Int × Int) × (Int × Int)) (a b : Nat) : (Int × Int) × (Int × Int) :=
 (cond (cond (!bg) true (!decide (v_le (v_lo p0 a b) c.1))) (v_lo p0 a b) c.1, cond (cond (!bg) true (!decide (v_le c.2 (v_hi p0 a b)))) (v_hi p0 a b) c.2)
theorem v_next_best {p0 : List (Int × (Int × Int))} (h : v_vok p0) {D D' : Nat → Nat → Prop} {c : (Int × Int) × (Int × Int)} {bg : Bool} {i k : Nat} (hik : i < k) (hk : k < p0.length) (hD : ∀ a b, D a b → a < b ∧ b < p0.length) (hD' : ∀ a b, D' a b ↔ D a b ∨ (a = i ∧ b = k)) (hb : bg = true → v_best p0 D c) (hn : bg = false → ∀ a b, ¬ D a b) : v_best p0 D' (v_next p0 bg c i k) := by
 obtain ⟨q1, q2⟩ := h.fb hik hk
 cases bg
 ·have hn := hn rfl
  have hD2 : ∀ a b, D' a b → a = i ∧ b = k := fun a b d => ((hD' a b).1 d).resolve_left (hn a b)
  exact ⟨⟨i, k, (hD' i k).2 (.inr ⟨rfl, rfl⟩), rfl⟩, ⟨i, k, (hD' i k).2 (.inr ⟨rfl, rfl⟩), rfl⟩, fun a b d => by obtain ⟨rfl, rfl⟩ := hD2 a b d; exact Int.le_refl _, fun a b d => by obtain ⟨rfl, rfl⟩ := hD2 a b d; exact Int.le_refl _⟩
 ·obtain ⟨⟨a1, b1, d1, e1⟩, ⟨a2, b2, d2, e2⟩, g3, g4⟩ := hb rfl
  have f1 := (h.fb (hD _ _ d1).1 (hD _ _ d1).2).1
  have f2 := (h.fb (hD _ _ d2).1 (hD _ _ d2).2).2
  rw [← e1] at f1
  rw [← e2] at f2
  unfold v_next
  refine ⟨?_, ?_, ?_, ?_⟩
  ·by_cases cc : v_le (v_lo p0 i k) c.1
   ·rw [decide_eq_true cc]; exact ⟨a1, b1, (hD' _ _).2 (.inl d1), e1⟩
   ·rw [decide_eq_false cc]; exact ⟨i, k, (hD' i k).2 (.inr ⟨rfl, rfl⟩), rfl⟩
  ·by_cases cc : v_le c.2 (v_hi p0 i k)
   ·rw [decide_eq_true cc]; exact ⟨a2, b2, (hD' _ _).2 (.inl d2), e2⟩
   ·rw [decide_eq_false cc]; exact ⟨i, k, (hD' i k).2 (.inr ⟨rfl, rfl⟩), rfl⟩
  ·intro a b d
   by_cases cc : v_le (v_lo p0 i k) c.1
   ·rw [decide_eq_true cc]
    rcases (hD' a b).1 d with d | ⟨rfl, rfl⟩
    ·exact g3 a b d
    ·exact cc
   ·rw [decide_eq_false cc]
    rcases (hD' a b).1 d with d | ⟨rfl, rfl⟩
    ·exact v_le_trans (h.fb (hD _ _ d).1 (hD _ _ d).2).1.d.1 f1.d.1 q1.d.1 (g3 a b d) ((v_le_total _ _).resolve_left cc)
    ·exact Int.le_refl _
  ·intro a b d
   by_cases cc : v_le c.2 (v_hi p0 i k)
   ·rw [decide_eq_true cc]
    rcases (hD' a b).1 d with d | ⟨rfl, rfl⟩
    ·exact g4 a b d
    ·exact cc
   ·rw [decide_eq_false cc]
    rcases (hD' a b).1 d with d | ⟨rfl, rfl⟩
    ·exact v_le_trans q2.d.1 f2.d.1 (h.fb (hD _ _ d).1 (hD _ _ d).2).2.d.1 ((v_le_total _ _).resolve_right cc) (g4 a b d)
    ·exact Int.le_refl _
/-- All pairs. -/
abbrev v_all (p0 : List (Int × (Int × Int))) (a b : Nat) : Prop := a < b ∧ b < p0.length
def v_Dk (k i a b : Nat) : Prop := a < b ∧ (b < k ∨ (b = k ∧ a < i))
def v_ci (y : Int × (Int × (Int × Int))) : (Int × Int) × (Int × Int) := ((y.1, y.2.1), y.2.2)
theorem l_gravity_rates_0 (p0 : List (Int × (Int × Int))) (h : v_vok p0) (k : Nat) (hk : k < p0.length) (c : Int × (Int × (Int × Int))) (hc : 2 ≤ k → v_best p0 (v_Dk k 0) (v_ci c)) : OkL (st_gravity_rates_0 p0 ((k : Int), c)) (sp_gravity_rates_0 p0 ((k : Int), c)) (0, c) ∧ ∃ c', lpv (Sum.inr ((0, 0), (0, 0))) (st_gravity_rates_0 p0 ((k : Int), c)) (0, c) = Sum.inl (((k + 1 : Nat) : Int), c') ∧ (2 ≤ k + 1 → v_best p0 (v_Dk (k + 1) 0) (v_ci c')) := by
 have hten := h.ten
 have htake : ∀ i, i < k → (List.take k p0).getD i (0, (0, 0)) = p0.getD i (0, (0, 0)) := fun i hi => gd_take hi
 have hlt : (List.take k p0).length = k := by rw [List.length_take]; omega
 have step : ∀ (i : Nat) (y : Int × (Int × (Int × Int))), i < k → (2 ≤ k ∨ 1 ≤ i → v_best p0 (v_Dk k i) (v_ci y)) → ∃ y', st_gravity_rates_0 p0 ((k : Int), c) ((i : Int), y) = Sum.inl (((i + 1 : Nat) : Int), y') ∧ v_ci y' = v_next p0 (cond (decide ((k : Int) > 1)) true (decide ((i : Int) > 0))) (v_ci y) i k ∧ v_best p0 (v_Dk k (i + 1)) (v_ci y') := by
  intro i y hi hy
  have hb := v_next_best h (D := v_Dk k i) (D' := v_Dk k (i + 1)) (c := v_ci y) (bg := cond (decide ((k : Int) > 1)) true (decide ((i : Int) > 0))) hi hk (fun a b d => ⟨d.1, by have := d.2; omega⟩) (fun a b => by unfold v_Dk; omega) (fun e => hy (by
   by_cases c1 : (k : Int) > 1
   ·omega
   ·rw [decide_eq_false c1] at e
    have := of_decide_eq_true e; omega)) (fun e a b d => by
   by_cases c1 : (k : Int) > 1
   ·rw [decide_eq_true c1] at e; cases e
   ·rw [decide_eq_false c1] at e
    have := of_decide_eq_false e
    unfold v_Dk at d; omega)
  obtain ⟨q1, q2⟩ := h.fb hi hk
  have hd : decide ((i : Int) < ((List.take k p0).length : Nat)) = true := decide_eq_true (by omega)
  have b1 := h.all i (by omega)
  have b2 := h.all k hk
  have b3 := q1.d
  have w1 : IntKind.i64.wrap ((p0.getD k (0, (0, 0))).2.1 - (p0.getD i (0, (0, 0))).2.2) = (v_lo p0 i k).1 := wrap_id (by omega) (by omega)
  have w2 : IntKind.i64.wrap ((p0.getD k (0, (0, 0))).1 - (p0.getD i (0, (0, 0))).1) = (v_lo p0 i k).2 := wrap_id (by omega) (by omega)
  have w3 : IntKind.i64.wrap ((p0.getD k (0, (0, 0))).2.2 - (p0.getD i (0, (0, 0))).2.1) = (v_hi p0 i k).1 := wrap_id (by omega) (by omega)
  have w4 : (v_lo p0 i k).2 = (v_hi p0 i k).2 := rfl
  have e1 : (cond (!cond (decide ((k : Int) > 1)) true (decide ((i : Int) > 0))) true (decide (s_gravity_compare ((v_lo p0 i k).1, (v_lo p0 i k).2) (y.1, y.2.1) > 0))) = (cond (!cond (decide ((k : Int) > 1)) true (decide ((i : Int) > 0))) true (!decide (v_le (v_lo p0 i k) (v_ci y).1))) := by
   cases hbg : cond (decide ((k : Int) > 1)) true (decide ((i : Int) > 0))
   ·rfl
   ·have hy := hy (by
     by_cases c1 : (k : Int) > 1
     ·omega
     ·rw [decide_eq_false c1] at hbg
      have := of_decide_eq_true hbg; omega)
    obtain ⟨a, b, d, e⟩ := hy.lo
    have := (h.fb d.1 (by have := d.2; omega)).1
    rw [← e] at this
    exact tx_cgt q1 this
  have e2 : (cond (!cond (decide ((k : Int) > 1)) true (decide ((i : Int) > 0))) true (decide (s_gravity_compare ((v_hi p0 i k).1, (v_lo p0 i k).2) y.2.2 < 0))) = (cond (!cond (decide ((k : Int) > 1)) true (decide ((i : Int) > 0))) true (!decide (v_le (v_ci y).2 (v_hi p0 i k)))) := by
   cases hbg : cond (decide ((k : Int) > 1)) true (decide ((i : Int) > 0))
   ·rfl
   ·have hy := hy (by
     by_cases c1 : (k : Int) > 1
     ·omega
     ·rw [decide_eq_false c1] at hbg
      have := of_decide_eq_true hbg; omega)
    obtain ⟨a, b, d, e⟩ := hy.hi
    have := (h.fb d.1 (by have := d.2; omega)).2
    rw [← e] at this
    exact tx_clt q2 this
  have key : ∃ y', st_gravity_rates_0 p0 ((k : Int), c) ((i : Int), y) = Sum.inl (((i + 1 : Nat) : Int), y') ∧ v_ci y' = v_next p0 (cond (decide ((k : Int) > 1)) true (decide ((i : Int) > 0))) (v_ci y) i k := by
   unfold st_gravity_rates_0 v_next
   simp only [Int.toNat_natCast, hd, cond_true, htake i hi, w1, w2, w3, e1, e2, wrap_nat (show (i : Int) ≤ 9223372036854775806 by omega)]
   cases (cond (!cond (decide ((k : Int) > 1)) true (decide ((i : Int) > 0))) true (!decide (v_le (v_lo p0 i k) (v_ci y).1))) <;> cases (cond (!cond (decide ((k : Int) > 1)) true (decide ((i : Int) > 0))) true (!decide (v_le (v_ci y).2 (v_hi p0 i k)))) <;> exact ⟨_, rfl, rfl⟩
  obtain ⟨y', k1, k2⟩ := key
  exact ⟨y', k1, k2, by rw [k2]; exact hb⟩
 -- what the rounds come to
 have run : ∀ (m i : Nat) (y : Int × (Int × (Int × Int))), m + i = k → (2 ≤ k ∨ 1 ≤ i → v_best p0 (v_Dk k i) (v_ci y)) → ∃ y', (∀ f, m < f → OkN (st_gravity_rates_0 p0 ((k : Int), c)) (sp_gravity_rates_0 p0 ((k : Int), c)) f ((i : Int), y) ∧ runL (Sum.inr ((0, 0), (0, 0))) (st_gravity_rates_0 p0 ((k : Int), c)) f ((i : Int), y) = Sum.inl (((k + 1 : Nat) : Int), y')) ∧ (2 ≤ k ∨ 1 ≤ k → v_best p0 (v_Dk k k) (v_ci y')) := by
  intro m
  induction m with
  | zero =>
   intro i y hm hy
   have hi : i = k := by omega
   subst hi
   refine ⟨y, fun f hf => ?_, hy⟩
   cases f with
   | zero => omega
   | succ f =>
    have hd : decide ((i : Int) < ((List.take i p0).length : Nat)) = false := decide_eq_false (by omega)
    have e : st_gravity_rates_0 p0 ((i : Int), c) ((i : Int), y) = Sum.inr (Sum.inl (((i + 1 : Nat) : Int), y)) := by
     unfold st_gravity_rates_0
     simp only [Int.toNat_natCast, hd, cond_false, wrap_nat (show (i : Int) ≤ 9223372036854775806 by omega)]
    unfold OkN runL
    rw [e]
    refine ⟨⟨?_, trivial⟩, rfl⟩
    simp only [sp_gravity_rates_0, List.forall_mem_cons, decide_eq_true_eq, Int.toNat_natCast]
    exact ⟨fun _ => by omega, fun _ => by omega, by simp⟩
  | succ m ih =>
   intro i y hm hy
   obtain ⟨y', e, _, hb⟩ := step i y (by omega) hy
   obtain ⟨z, g1, g2⟩ := ih (i + 1) y' (by omega) (fun _ => hb)
   refine ⟨z, fun f hf => ?_, g2⟩
   cases f with
   | zero => omega
   | succ f =>
    unfold OkN runL
    rw [e]
    obtain ⟨k1, k2⟩ := g1 f (by omega)
    refine ⟨⟨?_, k1⟩, k2⟩
    simp only [sp_gravity_rates_0, List.forall_mem_cons, decide_eq_true_eq, Int.toNat_natCast]
    exact ⟨fun _ => by omega, fun _ => by omega, by simp⟩
 obtain ⟨y', g1, g2⟩ := run k 0 c (by omega) (fun e => hc (by omega))
 obtain ⟨k1, k2⟩ := g1 fuel (by unfold fuel; omega)
 refine ⟨k1, y', k2, fun e => ?_⟩
 have := g2 (by omega)
 obtain ⟨⟨a1, b1, d1, e1⟩, ⟨a2, b2, d2, e2⟩, g3, g4⟩ := this
 exact ⟨⟨a1, b1, by unfold v_Dk at *; omega, e1⟩, ⟨a2, b2, by unfold v_Dk at *; omega, e2⟩, fun a b d => g3 a b (by unfold v_Dk at *; omega), fun a b d => g4 a b (by unfold v_Dk at *; omega)⟩
theorem l_gravity_rates (p0 : List (Int × (Int × Int))) (h : v_vok p0) : OkL (st_gravity_rates_1 p0) (sp_gravity_rates_1 p0) (0, (0, (0, (0, 0)))) ∧ v_best p0 (v_all p0) (s_gravity_rates p0) := by
 have hten := h.ten
 have htwo := h.two
 have run : ∀ (m k : Nat) (c : Int × (Int × (Int × Int))), m + k = p0.length → (2 ≤ k → v_best p0 (v_Dk k 0) (v_ci c)) → ∀ f, m < f → OkN (st_gravity_rates_1 p0) (sp_gravity_rates_1 p0) f ((k : Int), c) ∧ v_best p0 (v_Dk p0.length 0) (runL ((0, 0), (0, 0)) (st_gravity_rates_1 p0) f ((k : Int), c)) := by
  intro m
  induction m with
  | zero =>
   intro k c hm hc f hf
   have hk : k = p0.length := by omega
   subst hk
   cases f with
   | zero => omega
   | succ f =>
    have hd : decide ((p0.length : Int) < (p0.length : Nat)) = false := decide_eq_false (by omega)
    have e : st_gravity_rates_1 p0 ((p0.length : Int), c) = Sum.inr (v_ci c) := by
     unfold st_gravity_rates_1
     simp only [hd, cond_false]; rfl
    unfold OkN runL
    rw [e]
    refine ⟨⟨?_, trivial⟩, hc (by omega)⟩
    simp only [sp_gravity_rates_1, List.forall_mem_cons]
    have no : ∀ {p : Prop}, decide ((p0.length : Int) < (p0.length : Nat)) = true → p := fun h => by rw [hd] at h; cases h
    exact ⟨no, no, no, no, by simp⟩
  | succ m ih =>
   intro k c hm hc f hf
   cases f with
   | zero => omega
   | succ f =>
    have hd : decide ((k : Int) < (p0.length : Nat)) = true := decide_eq_true (by omega)
    obtain ⟨l1, c', l2, l3⟩ := l_gravity_rates_0 p0 h k (by omega) c hc
    have e : st_gravity_rates_1 p0 ((k : Int), c) = Sum.inl (((k + 1 : Nat) : Int), c') := by
     unfold st_gravity_rates_1
     simp only [hd, cond_true]; exact l2
    unfold OkN runL
    rw [e]
    obtain ⟨q1, q2⟩ := ih (k + 1) c' (by omega) l3 f (by omega)
    refine ⟨⟨?_, q1⟩, q2⟩
    simp only [sp_gravity_rates_1, List.forall_mem_cons]
    exact ⟨fun _ => by omega, fun _ => by omega, fun _ => by omega, fun _ => l1, by simp⟩
 obtain ⟨q1, q2⟩ := run p0.length 0 (0, (0, (0, 0))) (by omega) (fun e => by omega) fuel (by unfold fuel; omega)
 refine ⟨q1, ?_⟩
 obtain ⟨⟨a1, b1, d1, e1⟩, ⟨a2, b2, d2, e2⟩, g3, g4⟩ := q2
 exact ⟨⟨a1, b1, by unfold v_Dk at *; omega, e1⟩, ⟨a2, b2, by unfold v_Dk at *; omega, e2⟩, fun a b d => g3 a b (by unfold v_Dk at *; omega), fun a b d => g4 a b (by unfold v_Dk at *; omega)⟩
/-- The rates, not in lowest terms. -/
def v_rates (p0 : List (Int × (Int × Int))) : (Int × Int) × (Int × Int) := s_gravity_rates p0
theorem v_rates_best {p0 : List (Int × (Int × Int))} (h : v_vok p0) : v_best p0 (v_all p0) (v_rates p0) := (l_gravity_rates p0 h).2
theorem v_best.fb {p0 : List (Int × (Int × Int))} {c : (Int × Int) × (Int × Int)} (h : v_vok p0) (hb : v_best p0 (v_all p0) c) : v_fb c.1 ∧ v_fb c.2 := by
 obtain ⟨⟨a1, b1, d1, e1⟩, ⟨a2, b2, d2, e2⟩, _, _⟩ := hb
 rw [e1, e2]
 exact ⟨(h.fb d1.1 d1.2).1, (h.fb d2.1 d2.2).2⟩
/-- There is only one, in lowest terms. -/
theorem v_best_low {p0 : List (Int × (Int × Int))} {c c' : (Int × Int) × (Int × Int)} (h : v_vok p0) (hc : v_best p0 (v_all p0) c) (hc' : v_best p0 (v_all p0) c') : v_low c.1 = v_low c'.1 ∧ v_low c.2 = v_low c'.2 := by
 obtain ⟨f1, f2⟩ := hc.fb h
 obtain ⟨f3, f4⟩ := hc'.fb h
 obtain ⟨⟨a1, b1, d1, e1⟩, ⟨a2, b2, d2, e2⟩, g3, g4⟩ := hc
 obtain ⟨⟨a3, b3, d3, e3⟩, ⟨a4, b4, d4, e4⟩, g5, g6⟩ := hc'
 have k1 := g5 _ _ d1
 have k2 := g3 _ _ d3
 have k3 := g6 _ _ d2
 have k4 := g4 _ _ d4
 rw [← e1] at k1
 rw [← e3] at k2
 rw [← e2] at k3
 rw [← e4] at k4
 exact ⟨v_low_eq f1.d.1 f3.d.1 (Int.le_antisymm k1 k2), v_low_eq f2.d.1 f4.d.1 (Int.le_antisymm k4 k3)⟩
abbrev t_gravity_rates (p0 : List (Int × (Int × Int))) : (Int × Int) × (Int × Int) := v_rates p0
abbrev qre_gravity_rates (p0 : List (Int × (Int × Int))) : List Prop := [v_vok p0]
theorem pp_gravity_rates (p0 : List (Int × (Int × Int))) (hq : ∀ p ∈ qre_gravity_rates p0, p) : ∀ p ∈ pre_gravity_rates p0, p := by
 simp only [pre_gravity_rates, List.forall_mem_cons]
 exact ⟨(l_gravity_rates p0 (conj_of hq).1).1, by simp⟩
theorem tt_gravity_rates (p0 : List (Int × (Int × Int))) (_ : ∀ p ∈ qre_gravity_rates p0, p) : s_gravity_rates p0 = t_gravity_rates p0 := rfl

abbrev con_gravity_rates : Con := ⟨P_gravity_rates, R_gravity_rates, fun x => qre_gravity_rates x, fun x => t_gravity_rates x⟩
theorem ok_gravity_rates : ConOk Tryd.prog 111 con_gravity_rates := ⟨k_gravity_rates, fun x hx => ret_tf (ps := P_gravity_rates) (rs := R_gravity_rates) (x := x) (y := t_gravity_rates x) e_gravity_rates hC_gravity_rates (tf_of (w_gravity_rates_eq x (fun z => z = t_gravity_rates x)) (d_gravity_rates x (fun z => z = t_gravity_rates x) (pp_gravity_rates x hx) (tt_gravity_rates x hx)))⟩
/- gravity_RateOf -/
def C_gravity_RateOf : Cons := [(48, [], con_gravity_CheckVisits), (111, [], con_gravity_rates), (112, [], con_gravity_compare), (113, [], con_gravity_span)]
theorem hC_gravity_RateOf : ConsOk Tryd.prog C_gravity_RateOf := ConsOk.cons ok_gravity_CheckVisits <| ConsOk.cons ok_gravity_rates <| ConsOk.cons ok_gravity_compare <| ConsOk.cons ok_gravity_span <| ConsOk.nil
def w_gravity_RateOf (p0 : (List (Int × (Int × Int)))) (K : (((Int × Int) × (Int × Int)) × Int) → Prop) : Prop :=
  (((((v_visits p0).2 != (0 : Int)) = true) →
 (K ((((0 : Int), (0 : Int)), ((0 : Int), (0 : Int))), (v_visits p0).2))) ∧
 ((((v_visits p0).2 != (0 : Int)) = false) →
 ((v_vok p0) ∧
  ((((decide ((s_gravity_compare (v_rates p0).1 (v_rates p0).2) > (0 : Int))) = true) →
  (K ((((0 : Int), (0 : Int)), ((0 : Int), (0 : Int))), (13 : Int)))) ∧
  (((decide ((s_gravity_compare (v_rates p0).1 (v_rates p0).2) > (0 : Int))) = false) →
  ((v_fit (v_rates p0).1.1) ∧
   (((0 : Int) < (v_rates p0).1.2) ∧
   ((v_fit (v_rates p0).1.2) ∧
   ((v_fit (v_rates p0).2.1) ∧
   (((0 : Int) < (v_rates p0).2.2) ∧
   ((v_fit (v_rates p0).2.2) ∧
   (K (v_span (v_rates p0).1 (v_rates p0).2)))))))))))))
set_option maxHeartbeats 4000000 in
theorem w_gravity_RateOf_eq (p0 : (List (Int × (Int × Int)))) (K : (((Int × Int) × (Int × Int)) × Int) → Prop) : tfn F_gravity_RateOf A_gravity_RateOf C_gravity_RateOf P_gravity_RateOf R_gravity_RateOf p0 K = w_gravity_RateOf p0 K := by kernel_rfl
def s_gravity_RateOf (p0 : (List (Int × (Int × Int)))) : (((Int × Int) × (Int × Int)) × Int) :=
 (cond ((v_visits p0).2 != (0 : Int)) ((((0 : Int), (0 : Int)), ((0 : Int), (0 : Int))), (v_visits p0).2)
  (cond (decide ((s_gravity_compare (v_rates p0).1 (v_rates p0).2) > (0 : Int))) ((((0 : Int), (0 : Int)), ((0 : Int), (0 : Int))), (13 : Int))
  (v_span (v_rates p0).1 (v_rates p0).2)))
abbrev pre_gravity_RateOf (p0 : (List (Int × (Int × Int)))) : List Prop := [((((v_visits p0).2 != (0 : Int)) = false) → (v_vok p0)),
  ((((v_visits p0).2 != (0 : Int)) = false) → (((decide ((s_gravity_compare (v_rates p0).1 (v_rates p0).2) > (0 : Int))) = false) → (v_fit (v_rates p0).1.1))),
  ((((v_visits p0).2 != (0 : Int)) = false) → (((decide ((s_gravity_compare (v_rates p0).1 (v_rates p0).2) > (0 : Int))) = false) → ((0 : Int) < (v_rates p0).1.2))),
  ((((v_visits p0).2 != (0 : Int)) = false) → (((decide ((s_gravity_compare (v_rates p0).1 (v_rates p0).2) > (0 : Int))) = false) → (v_fit (v_rates p0).1.2))),
  ((((v_visits p0).2 != (0 : Int)) = false) → (((decide ((s_gravity_compare (v_rates p0).1 (v_rates p0).2) > (0 : Int))) = false) → (v_fit (v_rates p0).2.1))),
  ((((v_visits p0).2 != (0 : Int)) = false) → (((decide ((s_gravity_compare (v_rates p0).1 (v_rates p0).2) > (0 : Int))) = false) → ((0 : Int) < (v_rates p0).2.2))),
  ((((v_visits p0).2 != (0 : Int)) = false) → (((decide ((s_gravity_compare (v_rates p0).1 (v_rates p0).2) > (0 : Int))) = false) → (v_fit (v_rates p0).2.2)))]
set_option maxHeartbeats 4000000 in
theorem d_gravity_RateOf (p0 : (List (Int × (Int × Int)))) (K : (((Int × Int) × (Int × Int)) × Int) → Prop) (hp : ∀ p ∈ pre_gravity_RateOf p0, p) (h : K (s_gravity_RateOf p0)) : w_gravity_RateOf p0 K := by
 unfold w_gravity_RateOf
 unfold s_gravity_RateOf at h
 obtain ⟨hp0, hp1, hp2, hp3, hp4, hp5, hp6, _⟩ := conj_of hp
 exact (br' h (fun e0 h => h)
  (fun e0 h => ⟨(hp0 e0), (br' h (fun e1 h => h)
  (fun e1 h => ⟨(hp1 e0 e1), (hp2 e0 e1), (hp3 e0 e1), (hp4 e0 e1), (hp5 e0 e1), (hp6 e0 e1), h⟩))⟩))
abbrev t_gravity_RateOf (p0 : List (Int × (Int × Int))) : ((Int × Int) × (Int × Int)) × Int := cond ((v_visits p0).2 != 0) (((0, 0), (0, 0)), (v_visits p0).2) (cond (decide (v_le (v_rates p0).1 (v_rates p0).2)) (v_span (v_rates p0).1 (v_rates p0).2) (((0, 0), (0, 0)), 13))
abbrev qre_gravity_RateOf (_ : List (Int × (Int × Int))) : List Prop := []
theorem pp_gravity_RateOf (p0 : List (Int × (Int × Int))) (_ : ∀ p ∈ qre_gravity_RateOf p0, p) : ∀ p ∈ pre_gravity_RateOf p0, p := by
 simp only [pre_gravity_RateOf, List.forall_mem_cons]
 have k1 : ((v_visits p0).2 != 0) = false → v_vok p0 := fun h => tx_visits (bne0' h)
 have key : ((v_visits p0).2 != 0) = false → v_fb (v_rates p0).1 ∧ v_fb (v_rates p0).2 := fun h => (v_rates_best (k1 h)).fb (k1 h)
 refine ⟨k1, fun h _ => ?_, fun h _ => (key h).1.d.1, fun h _ => ?_, fun h _ => ?_, fun h _ => (key h).2.d.1, fun h _ => ?_, by simp⟩
 all_goals
  obtain ⟨⟨g1, g2⟩, ⟨g3, g4⟩⟩ := key h
  unfold v_fit
  omega
theorem tt_gravity_RateOf (p0 : List (Int × (Int × Int))) (_ : ∀ p ∈ qre_gravity_RateOf p0, p) : s_gravity_RateOf p0 = t_gravity_RateOf p0 := by
 unfold s_gravity_RateOf t_gravity_RateOf
 cases h : ((v_visits p0).2 != 0)
 ·have k := tx_visits (bne0' h)
  obtain ⟨f1, f2⟩ := (v_rates_best k).fb k
  simp only [cond_false]
  rw [tx_cgt f1 f2]
  cases decide (v_le (v_rates p0).1 (v_rates p0).2) <;> rfl
 ·rfl

abbrev con_gravity_RateOf : Con := ⟨P_gravity_RateOf, R_gravity_RateOf, fun x => qre_gravity_RateOf x, fun x => t_gravity_RateOf x⟩
theorem ok_gravity_RateOf : ConOk Tryd.prog 50 con_gravity_RateOf := ⟨k_gravity_RateOf, fun x hx => ret_tf (ps := P_gravity_RateOf) (rs := R_gravity_RateOf) (x := x) (y := t_gravity_RateOf x) e_gravity_RateOf hC_gravity_RateOf (tf_of (w_gravity_RateOf_eq x (fun z => z = t_gravity_RateOf x)) (d_gravity_RateOf x (fun z => z = t_gravity_RateOf x) (pp_gravity_RateOf x hx) (tt_gravity_RateOf x hx)))⟩
/- base_IsSmall -/
def C_base_IsSmall : Cons := [(60, [], con_base_Within)]
theorem hC_base_IsSmall : ConsOk Tryd.prog C_base_IsSmall := ConsOk.cons ok_base_Within <| ConsOk.nil
def w_base_IsSmall (p0 : (Int × Int)) (K : Bool → Prop) : Prop :=
  ((((s_base_Within p0.1 (-1000000000 : Int) (1000000000 : Int)) = true) →
 ((s_base_Within p0.1 (-1000000000 : Int) (1000000000 : Int)) = (s_base_Within p0.1 (-1000000000 : Int) (1000000000 : Int)))) ∧
 ((((s_base_Within p0.1 (-1000000000 : Int) (1000000000 : Int)) = true) →
 ((s_base_Within p0.1 (-1000000000 : Int) (1000000000 : Int)) = (s_base_Within p0.1 (-1000000000 : Int) (1000000000 : Int)))) ∧
 (((s_base_Within p0.1 (-1000000000 : Int) (1000000000 : Int)) = (s_base_Within p0.1 (-1000000000 : Int) (1000000000 : Int))) ∧
 (K (cond (s_base_Within p0.1 (-1000000000 : Int) (1000000000 : Int)) (s_base_Within p0.2 (1 : Int) (1000000000 : Int)) false)))))
set_option maxHeartbeats 4000000 in
theorem w_base_IsSmall_eq (p0 : (Int × Int)) (K : Bool → Prop) : tfn F_base_IsSmall A_base_IsSmall C_base_IsSmall P_base_IsSmall R_base_IsSmall p0 K = w_base_IsSmall p0 K := by kernel_rfl
def s_base_IsSmall (p0 : (Int × Int)) : Bool :=
 (cond (s_base_Within p0.1 (-1000000000 : Int) (1000000000 : Int)) (s_base_Within p0.2 (1 : Int) (1000000000 : Int)) false)
abbrev pre_base_IsSmall (p0 : (Int × Int)) : List Prop := []
set_option maxHeartbeats 4000000 in
theorem d_base_IsSmall (p0 : (Int × Int)) (K : Bool → Prop) (hp : ∀ p ∈ pre_base_IsSmall p0, p) (h : K (s_base_IsSmall p0)) : w_base_IsSmall p0 K := by
 unfold w_base_IsSmall
 unfold s_base_IsSmall at h
 exact ⟨rf, rf, rfl, h⟩
abbrev con_base_IsSmall : Con := ⟨P_base_IsSmall, R_base_IsSmall, fun x => pre_base_IsSmall x, fun x => s_base_IsSmall x⟩
theorem ok_base_IsSmall : ConOk Tryd.prog 58 con_base_IsSmall := ⟨k_base_IsSmall, fun x hx => ret_tf (ps := P_base_IsSmall) (rs := R_base_IsSmall) (x := x) (y := s_base_IsSmall x) e_base_IsSmall hC_base_IsSmall (tf_of (w_base_IsSmall_eq x (fun z => z = s_base_IsSmall x)) (d_base_IsSmall x (fun z => z = s_base_IsSmall x) hx rfl))⟩
/- base_Cmp -/
def C_base_Cmp : Cons := []
theorem hC_base_Cmp : ConsOk Tryd.prog C_base_Cmp := ConsOk.nil
def w_base_Cmp (p0 : (Int × Int)) (p1 : (Int × Int)) (K : Int → Prop) : Prop :=
  ((((decide ((IntKind.i64.wrap (p0.1 * p1.2)) < (IntKind.i64.wrap (p1.1 * p0.2)))) = true) →
 (K (-1 : Int))) ∧
 (((decide ((IntKind.i64.wrap (p0.1 * p1.2)) < (IntKind.i64.wrap (p1.1 * p0.2)))) = false) →
 ((((decide ((IntKind.i64.wrap (p0.1 * p1.2)) > (IntKind.i64.wrap (p1.1 * p0.2)))) = true) →
  (K (1 : Int))) ∧
  (((decide ((IntKind.i64.wrap (p0.1 * p1.2)) > (IntKind.i64.wrap (p1.1 * p0.2)))) = false) →
  (K (0 : Int))))))
set_option maxHeartbeats 4000000 in
theorem w_base_Cmp_eq (p0 : (Int × Int)) (p1 : (Int × Int)) (K : Int → Prop) : tfn F_base_Cmp A_base_Cmp C_base_Cmp P_base_Cmp R_base_Cmp (p0, p1) K = w_base_Cmp p0 p1 K := by kernel_rfl
def s_base_Cmp (p0 : (Int × Int)) (p1 : (Int × Int)) : Int :=
 (cond (decide ((IntKind.i64.wrap (p0.1 * p1.2)) < (IntKind.i64.wrap (p1.1 * p0.2)))) (-1 : Int)
  (cond (decide ((IntKind.i64.wrap (p0.1 * p1.2)) > (IntKind.i64.wrap (p1.1 * p0.2)))) (1 : Int)
  (0 : Int)))
abbrev pre_base_Cmp (p0 : (Int × Int)) (p1 : (Int × Int)) : List Prop := []
set_option maxHeartbeats 4000000 in
theorem d_base_Cmp (p0 : (Int × Int)) (p1 : (Int × Int)) (K : Int → Prop) (hp : ∀ p ∈ pre_base_Cmp p0 p1, p) (h : K (s_base_Cmp p0 p1)) : w_base_Cmp p0 p1 K := by
 unfold w_base_Cmp
 unfold s_base_Cmp at h
 exact (br' h (fun e0 h => h)
  (fun e0 h => (br' h (fun e1 h => h)
  (fun e1 h => h))))
abbrev con_base_Cmp : Con := ⟨P_base_Cmp, R_base_Cmp, fun x => pre_base_Cmp x.1 x.2, fun x => s_base_Cmp x.1 x.2⟩
theorem ok_base_Cmp : ConOk Tryd.prog 59 con_base_Cmp := ⟨k_base_Cmp, fun x hx => ret_tf (ps := P_base_Cmp) (rs := R_base_Cmp) (x := x) (y := s_base_Cmp x.1 x.2) e_base_Cmp hC_base_Cmp (tf_of (w_base_Cmp_eq x.1 x.2 (fun z => z = s_base_Cmp x.1 x.2)) (d_base_Cmp x.1 x.2 (fun z => z = s_base_Cmp x.1 x.2) hx rfl))⟩
theorem tx_Cgt {x y : Int × Int} (hx : v_fb x) (hy : v_fb y) : decide (s_base_Cmp x y > 0) = !decide (v_le x y) := by
 unfold s_base_Cmp
 rw [hx.mul hy, hy.mul hx]
 rcases Int.lt_trichotomy (x.1 * y.2) (y.1 * x.2) with c | c | c
 ·rw [decide_eq_true c, decide_eq_true (show v_le x y from Int.le_of_lt c)]; rfl
 ·rw [decide_eq_false (show ¬ x.1 * y.2 < y.1 * x.2 by omega), decide_eq_false (show ¬ x.1 * y.2 > y.1 * x.2 by omega), decide_eq_true (show v_le x y from Int.le_of_eq c)]; rfl
 ·rw [decide_eq_false (show ¬ x.1 * y.2 < y.1 * x.2 by omega), decide_eq_true (show x.1 * y.2 > y.1 * x.2 from c), decide_eq_false (show ¬ v_le x y from Int.not_le.2 c)]; rfl
theorem tx_Cle {x y : Int × Int} (hx : v_fb x) (hy : v_fb y) : decide (s_base_Cmp x y ≤ 0) = decide (v_le x y) := by
 have := tx_Cgt hx hy
 rcases Int.lt_or_le 0 (s_base_Cmp x y) with c | c
 ·rw [decide_eq_true (show s_base_Cmp x y > 0 from c)] at this
  rw [decide_eq_false (show ¬ s_base_Cmp x y ≤ 0 by omega)]
  cases h : decide (v_le x y)
  ·rfl
  ·rw [h] at this; cases this
 ·rw [decide_eq_false (show ¬ s_base_Cmp x y > 0 by omega)] at this
  rw [decide_eq_true c]
  cases h : decide (v_le x y)
  ·rw [h] at this; cases this
  ·rfl
theorem tx_Clt {x y : Int × Int} (hx : v_fb x) (hy : v_fb y) : decide (s_base_Cmp x y < 0) = !decide (v_le y x) := by
 unfold s_base_Cmp
 rw [hx.mul hy, hy.mul hx]
 rcases Int.lt_trichotomy (x.1 * y.2) (y.1 * x.2) with c | c | c
 ·rw [decide_eq_true c, decide_eq_false (show ¬ v_le y x from Int.not_le.2 c)]; rfl
 ·rw [decide_eq_false (show ¬ x.1 * y.2 < y.1 * x.2 by omega), decide_eq_false (show ¬ x.1 * y.2 > y.1 * x.2 by omega), decide_eq_true (show v_le y x from Int.le_of_eq c.symm)]; rfl
 ·rw [decide_eq_false (show ¬ x.1 * y.2 < y.1 * x.2 by omega), decide_eq_true (show x.1 * y.2 > y.1 * x.2 from c), decide_eq_true (show v_le y x from Int.le_of_lt c)]; rfl
/- base_Mod -/
def C_base_Mod : Cons := []
theorem hC_base_Mod : ConsOk Tryd.prog C_base_Mod := ConsOk.nil
def w_base_Mod (p0 : Int) (p1 : Int) (K : Int → Prop) : Prop :=
  ((p1 ≠ (0 : Int)) ∧
 ((((decide ((Int.tmod p0 p1) < (0 : Int))) = true) →
 (K (IntKind.i64.wrap ((Int.tmod p0 p1) + p1)))) ∧
 (((decide ((Int.tmod p0 p1) < (0 : Int))) = false) →
 (K (Int.tmod p0 p1)))))
set_option maxHeartbeats 4000000 in
theorem w_base_Mod_eq (p0 : Int) (p1 : Int) (K : Int → Prop) : tfn F_base_Mod A_base_Mod C_base_Mod P_base_Mod R_base_Mod (p0, p1) K = w_base_Mod p0 p1 K := by kernel_rfl
def s_base_Mod (p0 : Int) (p1 : Int) : Int :=
 (cond (decide ((Int.tmod p0 p1) < (0 : Int))) (IntKind.i64.wrap ((Int.tmod p0 p1) + p1))
  (Int.tmod p0 p1))
abbrev pre_base_Mod (p0 : Int) (p1 : Int) : List Prop := [(p1 ≠ (0 : Int))]
set_option maxHeartbeats 4000000 in
theorem d_base_Mod (p0 : Int) (p1 : Int) (K : Int → Prop) (hp : ∀ p ∈ pre_base_Mod p0 p1, p) (h : K (s_base_Mod p0 p1)) : w_base_Mod p0 p1 K := by
 unfold w_base_Mod
 unfold s_base_Mod at h
 obtain ⟨hp0, _⟩ := conj_of hp
 exact ⟨(hp0), (br' h (fun e0 h => h)
  (fun e0 h => h))⟩
abbrev t_base_Mod (p0 p1 : Int) : Int := p0 % p1
abbrev qre_base_Mod (p0 p1 : Int) : List Prop := [0 < p1 ∧ p1 ≤ 1000000000000]
theorem pp_base_Mod (p0 p1 : Int) (hq : ∀ p ∈ qre_base_Mod p0 p1, p) : ∀ p ∈ pre_base_Mod p0 p1, p := by
 have h := (conj_of hq).1
 simp only [pre_base_Mod, List.forall_mem_cons]
 exact ⟨by omega, by simp⟩
theorem tt_base_Mod (p0 p1 : Int) (hq : ∀ p ∈ qre_base_Mod p0 p1, p) : s_base_Mod p0 p1 = t_base_Mod p0 p1 := by
 have h := (conj_of hq).1
 unfold s_base_Mod t_base_Mod
 have h1 := v_tmod_lt (a := p0) (b := p1) (by omega)
 have h2 := Int.mul_tdiv_add_tmod p0 p1
 cases c : decide (p0.tmod p1 < 0)
 ·have := of_decide_eq_false c
  simp only [cond_false]
  exact ((Int.ediv_emod_unique (a := p0) (b := p1) (q := p0.tdiv p1) (r := p0.tmod p1) h.1).2 ⟨by omega, by omega, by omega⟩).2.symm
 ·have := of_decide_eq_true c
  simp only [cond_true]
  rw [wrap_id (by omega) (by omega)]
  have e : p1 * (p0.tdiv p1 - 1) = p1 * p0.tdiv p1 - p1 := by rw [Int.mul_sub, Int.mul_one]
  exact ((Int.ediv_emod_unique (a := p0) (b := p1) (q := p0.tdiv p1 - 1) (r := p0.tmod p1 + p1) h.1).2 ⟨by omega, by omega, by omega⟩).2.symm

abbrev con_base_Mod : Con := ⟨P_base_Mod, R_base_Mod, fun x => qre_base_Mod x.1 x.2, fun x => t_base_Mod x.1 x.2⟩
theorem ok_base_Mod : ConOk Tryd.prog 61 con_base_Mod := ⟨k_base_Mod, fun x hx => ret_tf (ps := P_base_Mod) (rs := R_base_Mod) (x := x) (y := t_base_Mod x.1 x.2) e_base_Mod hC_base_Mod (tf_of (w_base_Mod_eq x.1 x.2 (fun z => z = t_base_Mod x.1 x.2)) (d_base_Mod x.1 x.2 (fun z => z = t_base_Mod x.1 x.2) (pp_base_Mod x.1 x.2 hx) (tt_base_Mod x.1 x.2 hx)))⟩
/- base_Whole -/
def C_base_Whole : Cons := []
theorem hC_base_Whole : ConsOk Tryd.prog C_base_Whole := ConsOk.nil
def w_base_Whole (p0 : Int) (K : (Int × Int) → Prop) : Prop :=
  (K (p0, (1 : Int)))
set_option maxHeartbeats 4000000 in
theorem w_base_Whole_eq (p0 : Int) (K : (Int × Int) → Prop) : tfn F_base_Whole A_base_Whole C_base_Whole P_base_Whole R_base_Whole p0 K = w_base_Whole p0 K := by kernel_rfl
def s_base_Whole (p0 : Int) : (Int × Int) :=
 (p0, (1 : Int))
abbrev pre_base_Whole (p0 : Int) : List Prop := []
set_option maxHeartbeats 4000000 in
theorem d_base_Whole (p0 : Int) (K : (Int × Int) → Prop) (hp : ∀ p ∈ pre_base_Whole p0, p) (h : K (s_base_Whole p0)) : w_base_Whole p0 K := by
 unfold w_base_Whole
 unfold s_base_Whole at h
 exact h
abbrev con_base_Whole : Con := ⟨P_base_Whole, R_base_Whole, fun x => pre_base_Whole x, fun x => s_base_Whole x⟩
theorem ok_base_Whole : ConOk Tryd.prog 62 con_base_Whole := ⟨k_base_Whole, fun x hx => ret_tf (ps := P_base_Whole) (rs := R_base_Whole) (x := x) (y := s_base_Whole x) e_base_Whole hC_base_Whole (tf_of (w_base_Whole_eq x (fun z => z = s_base_Whole x)) (d_base_Whole x (fun z => z = s_base_Whole x) hx rfl))⟩
end Go.Proofs.YtcecdmdnfmgnfaaDoor
