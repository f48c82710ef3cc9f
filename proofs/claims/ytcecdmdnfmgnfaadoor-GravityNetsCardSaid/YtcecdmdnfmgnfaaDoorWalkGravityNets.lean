/- What the functions that GravityNets reaches compute: contracts, each function once. No condition. -/
import Derived.Test.YtcecdmdnfmgnfaaDoorLayB
import Derived.Test.YtcecdmdnfmgnfaaDoorRp2GravityNets
import Derived.KernelRfl
namespace Go.Proofs.YtcecdmdnfmgnfaaDoor
open Go Go.Mx
set_option maxRecDepth 100000
abbrev wi (n : Int) : Int := IntKind.i64.wrap n
abbrev zz0 : Int := 0
abbrev zz1 : Int := 1
abbrev zz2 : Int := 2
abbrev zz3 : Int := 3
theorem od {p : Prop} [Decidable p] (h : decide p = true) : p := of_decide_eq_true h
theorem nof {p : Prop} (h : false = true) : p := Bool.noConfusion h
theorem rf {p : Prop} {α : Sort _} {a : α} (_ : p) : a = a := rfl
/- law05_fewTies -/
def C_law05_fewTies : Cons := []
theorem hC_law05_fewTies : ConsOk Tryd.prog C_law05_fewTies := ConsOk.nil
def w_law05_fewTies (p0 : (Int × (List (Int × (Int × (Int × Int)))))) (K : Bool → Prop) : Prop :=
 (K (decide ((((List.length p0.2) : Nat) : Int) ≤ (14 : Int))))
set_option maxHeartbeats 4000000 in
theorem w_law05_fewTies_eq (p0 : (Int × (List (Int × (Int × (Int × Int)))))) (K : Bool → Prop) : tfn F_law05_fewTies A_law05_fewTies C_law05_fewTies P_law05_fewTies R_law05_fewTies p0 K = w_law05_fewTies p0 K := by kernel_rfl
def s_law05_fewTies (p0 : (Int × (List (Int × (Int × (Int × Int)))))) : Bool :=
  (decide ((((List.length p0.2) : Nat) : Int) ≤ (14 : Int)))
abbrev pre_law05_fewTies (p0 : (Int × (List (Int × (Int × (Int × Int)))))) : List Prop := []
set_option maxHeartbeats 4000000 in
theorem d_law05_fewTies (p0 : (Int × (List (Int × (Int × (Int × Int)))))) (K : Bool → Prop) (hp : ∀ p ∈ pre_law05_fewTies p0, p) (h : K (s_law05_fewTies p0)) : w_law05_fewTies p0 K := by
  unfold w_law05_fewTies
  unfold s_law05_fewTies at h
  exact h
abbrev con_law05_fewTies : Con := ⟨P_law05_fewTies, R_law05_fewTies, fun x => pre_law05_fewTies x, fun x => s_law05_fewTies x⟩
theorem ok_law05_fewTies : ConOk Tryd.prog 40 con_law05_fewTies := ⟨k_law05_fewTies, fun x hx => ret_tf (ps := P_law05_fewTies) (rs := R_law05_fewTies) (x := x) (y := s_law05_fewTies x) e_law05_fewTies hC_law05_fewTies (tf_of (w_law05_fewTies_eq x (fun z => z = s_law05_fewTies x)) (d_law05_fewTies x (fun z => z = s_law05_fewTies x) hx rfl))⟩
/- ref05_CopyNet -/
def C_ref05_CopyNet : Cons := []
theorem hC_ref05_CopyNet : ConsOk Tryd.prog C_ref05_CopyNet := ConsOk.nil
def w_ref05_CopyNet (p0 : (Int × (List (Int × (Int × (Int × Int)))))) (K : (Int × (List (Int × (Int × (Int × Int))))) → Prop) : Prop :=
 (((((List.length ([] : List (Int × (Int × (Int × Int))))) + (List.length p0.2)) * 32) ≤ 140737488355328) ∧
  (K (p0.1, (([] : List (Int × (Int × (Int × Int)))) ++ p0.2))))
set_option maxHeartbeats 4000000 in
theorem w_ref05_CopyNet_eq (p0 : (Int × (List (Int × (Int × (Int × Int)))))) (K : (Int × (List (Int × (Int × (Int × Int))))) → Prop) : tfn F_ref05_CopyNet A_ref05_CopyNet C_ref05_CopyNet P_ref05_CopyNet R_ref05_CopyNet p0 K = w_ref05_CopyNet p0 K := by kernel_rfl
def s_ref05_CopyNet (p0 : (Int × (List (Int × (Int × (Int × Int)))))) : (Int × (List (Int × (Int × (Int × Int))))) :=
  (p0.1, (([] : List (Int × (Int × (Int × Int)))) ++ p0.2))
abbrev pre_ref05_CopyNet (p0 : (Int × (List (Int × (Int × (Int × Int)))))) : List Prop := [((((List.length ([] : List (Int × (Int × (Int × Int))))) + (List.length p0.2)) * 32) ≤ 140737488355328)]
set_option maxHeartbeats 4000000 in
theorem d_ref05_CopyNet (p0 : (Int × (List (Int × (Int × (Int × Int)))))) (K : (Int × (List (Int × (Int × (Int × Int))))) → Prop) (hp : ∀ p ∈ pre_ref05_CopyNet p0, p) (h : K (s_ref05_CopyNet p0)) : w_ref05_CopyNet p0 K := by
  unfold w_ref05_CopyNet
  unfold s_ref05_CopyNet at h
  obtain ⟨hp0, _⟩ := conj_of hp
  exact ⟨(hp0), h⟩
abbrev con_ref05_CopyNet : Con := ⟨P_ref05_CopyNet, R_ref05_CopyNet, fun x => pre_ref05_CopyNet x, fun x => s_ref05_CopyNet x⟩
theorem ok_ref05_CopyNet : ConOk Tryd.prog 42 con_ref05_CopyNet := ⟨k_ref05_CopyNet, fun x hx => ret_tf (ps := P_ref05_CopyNet) (rs := R_ref05_CopyNet) (x := x) (y := s_ref05_CopyNet x) e_ref05_CopyNet hC_ref05_CopyNet (tf_of (w_ref05_CopyNet_eq x (fun z => z = s_ref05_CopyNet x)) (d_ref05_CopyNet x (fun z => z = s_ref05_CopyNet x) hx rfl))⟩
/- gravity_bounds_1 -/
/-- What bounds hands on: of, from, more. -/
def v_bounds : List (Int × Int × Int × Int) → List (Int × Int × Int)
  | [] => []
  | t :: r => (t.2.1, t.1, t.2.2.2) :: (t.1, t.2.1, IntKind.i64.wrap (0 - t.2.2.1)) :: v_bounds r
theorem v_bounds_eq : ∀ l, v_bnds l = (v_bounds l).map (valPs [.agg (.pr (.int .i64) (.pr (.int .i64) (.int .i64)))])
  | [] => rfl
  | t :: r => by simp only [v_bnds, v_bounds, List.map_cons, v_bounds_eq r]; rfl
abbrev con_gravity_bounds_1 : Con := ⟨.fn 141 [.sl (.pr (.int .i64) (.pr (.int .i64) (.pr (.int .i64) (.int .i64))))] :: .agg (.pr (.int .i64) (.pr (.int .i64) (.int .i64))) :: [], [.one (.sl (tyPs (.agg (.pr (.int .i64) (.pr (.int .i64) (.int .i64))) :: [])))], fun x => [x.1.1.length ≤ 1000000], fun x => v_bounds x.1.1⟩
theorem ok_gravity_bounds_1 : ConIOk Tryd.prog 141 con_gravity_bounds_1 := by
  refine ⟨rfl, k_gravity_bounds_1, rfl, fun x hx => ?_⟩
  obtain ⟨h1, _⟩ := conj_of hx
  show Iter Tryd.prog 141 [[.sl 4 (x.1.map (Ty.enc (.pr (.int .i64) (.pr (.int .i64) (.pr (.int .i64) (.int .i64)))))) false]] ((v_bounds x.1).map (valPs [.agg (.pr (.int .i64) (.pr (.int .i64) (.int .i64)))]))
  rw [← v_bounds_eq x.1]
  exact it_bounds x.1 false h1
/- gravity_bounds -/
def C_gravity_bounds : Cons := []
theorem hC_gravity_bounds : ConsOk Tryd.prog C_gravity_bounds := ConsOk.nil
def w_gravity_bounds (p0 : (List (Int × (Int × (Int × Int))))) (K : ((List (Int × (Int × (Int × Int)))) × PUnit) → Prop) : Prop :=
 (K (p0, ()))
set_option maxHeartbeats 4000000 in
theorem w_gravity_bounds_eq (p0 : (List (Int × (Int × (Int × Int))))) (K : ((List (Int × (Int × (Int × Int)))) × PUnit) → Prop) : tfn F_gravity_bounds A_gravity_bounds C_gravity_bounds P_gravity_bounds R_gravity_bounds p0 K = w_gravity_bounds p0 K := by kernel_rfl
def s_gravity_bounds (p0 : (List (Int × (Int × (Int × Int))))) : ((List (Int × (Int × (Int × Int)))) × PUnit) :=
  (p0, ())
abbrev pre_gravity_bounds (p0 : (List (Int × (Int × (Int × Int))))) : List Prop := []
set_option maxHeartbeats 4000000 in
theorem d_gravity_bounds (p0 : (List (Int × (Int × (Int × Int))))) (K : ((List (Int × (Int × (Int × Int)))) × PUnit) → Prop) (hp : ∀ p ∈ pre_gravity_bounds p0, p) (h : K (s_gravity_bounds p0)) : w_gravity_bounds p0 K := by
  unfold w_gravity_bounds
  unfold s_gravity_bounds at h
  exact h
abbrev con_gravity_bounds : Con := ⟨P_gravity_bounds, R_gravity_bounds, fun x => pre_gravity_bounds x, fun x => s_gravity_bounds x⟩
theorem ok_gravity_bounds : ConOk Tryd.prog 139 con_gravity_bounds := ⟨k_gravity_bounds, fun x hx => ret_tf (ps := P_gravity_bounds) (rs := R_gravity_bounds) (x := x) (y := s_gravity_bounds x) e_gravity_bounds hC_gravity_bounds (tf_of (w_gravity_bounds_eq x (fun z => z = s_gravity_bounds x)) (d_gravity_bounds x (fun z => z = s_gravity_bounds x) hx rfl))⟩
/- gravity_lowered -/
def C_gravity_lowered : Cons := [(139, [], con_gravity_bounds), (141, itMark, con_gravity_bounds_1)]
theorem hC_gravity_lowered : ConsOk Tryd.prog C_gravity_lowered := ConsOk.cons ok_gravity_bounds <| ConsOk.consI ok_gravity_bounds_1 <| ConsOk.nil
abbrev q0_gravity_lowered (y3 : ((List Int) × ((List Bool) × Bool))) (z4 : (Int × (Int × Int))) := ((!(List.getD y3.2.1 (Int.toNat z4.1) false)) = (!(List.getD y3.2.1 (Int.toNat z4.1) false)))
def w_gravity_lowered (p0 : (List (Int × (Int × (Int × Int))))) (p1 : (List Int)) (p2 : (List Bool)) (K : (Bool × ((List Int) × (List Bool))) → Prop) : Prop :=
 (∃ n0, (loopP (fun (y1 : (Int × ((List Int) × (List Bool)))) k2 =>
    ((((decide (y1.1 < (wi ((((List.length p1) : Nat) : Int) + zz1)))) = true) →
    (((List.length p0) ≤ 1000000) ∧
      (RngP (fun (y3 : ((List Int) × ((List Bool) × Bool))) (z4 : (Int × (Int × Int))) k5 =>
        ((zz0 ≤ z4.2.1) ∧
        ((z4.2.1 < (((List.length y3.2.1) : Nat) : Int)) ∧
        ((((!(List.getD y3.2.1 (Int.toNat z4.2.1) false)) = true) →
        (k5 y3)) ∧
        (((!(List.getD y3.2.1 (Int.toNat z4.2.1) false)) = false) →
        ((zz0 ≤ z4.2.1) ∧
          ((z4.2.1 < (((List.length y3.1) : Nat) : Int)) ∧
          ((zz0 ≤ z4.1) ∧
          ((z4.1 < (((List.length y3.2.1) : Nat) : Int)) ∧
          ((((!(List.getD y3.2.1 (Int.toNat z4.1) false)) = false) →
          (q0_gravity_lowered y3 z4)) ∧
          ((((!(List.getD y3.2.1 (Int.toNat z4.1) false)) = false) →
          (q0_gravity_lowered y3 z4)) ∧
          ((((!(List.getD y3.2.1 (Int.toNat z4.1) false)) = false) →
          (q0_gravity_lowered y3 z4)) ∧
          ((((!(List.getD y3.2.1 (Int.toNat z4.1) false)) = false) →
          (zz0 ≤ z4.1)) ∧
          ((((!(List.getD y3.2.1 (Int.toNat z4.1) false)) = false) →
          (z4.1 < (((List.length y3.1) : Nat) : Int))) ∧
          ((((!(List.getD y3.2.1 (Int.toNat z4.1) false)) = false) →
          (q0_gravity_lowered y3 z4)) ∧
          ((((!(List.getD y3.2.1 (Int.toNat z4.1) false)) = false) →
          (q0_gravity_lowered y3 z4)) ∧
          ((((!(List.getD y3.2.1 (Int.toNat z4.1) false)) = false) →
          (q0_gravity_lowered y3 z4)) ∧
          ((q0_gravity_lowered y3 z4) ∧
          ((((cond (!(List.getD y3.2.1 (Int.toNat z4.1) false)) true (decide ((wi ((List.getD y3.1 (Int.toNat z4.2.1) zz0) + z4.2.2)) < (List.getD y3.1 (Int.toNat z4.1) zz0)))) = true) →
          ((zz0 ≤ z4.1) ∧
            ((z4.1 < (((List.length y3.1) : Nat) : Int)) ∧
            ((zz0 ≤ z4.1) ∧
            ((z4.1 < (((List.length y3.2.1) : Nat) : Int)) ∧
            (k5 ((List.set y3.1 (Int.toNat z4.1) (wi ((List.getD y3.1 (Int.toNat z4.2.1) zz0) + z4.2.2))), ((List.set y3.2.1 (Int.toNat z4.1) true), true)))))))) ∧
          (((cond (!(List.getD y3.2.1 (Int.toNat z4.1) false)) true (decide ((wi ((List.getD y3.1 (Int.toNat z4.2.1) zz0) + z4.2.2)) < (List.getD y3.1 (Int.toNat z4.1) zz0)))) = false) →
          (k5 y3)))))))))))))))))))))
        (fun (s6 : ((List Int) × ((List Bool) × Bool))) => ((((!s6.2.2) = true) →
        (K (true, (s6.1, s6.2.1)))) ∧
        (((!s6.2.2) = false) →
        (k2 ((wi (y1.1 + zz1)), (s6.1, s6.2.1)))))) (v_bounds p0) (y1.2.1, (y1.2.2, false))))) ∧
    (((decide (y1.1 < (wi ((((List.length p1) : Nat) : Int) + zz1)))) = false) →
    (K (false, y1.2))))) n0 (zz0, (p1, p2))))
set_option maxHeartbeats 4000000 in
theorem w_gravity_lowered_eq (p0 : (List (Int × (Int × (Int × Int))))) (p1 : (List Int)) (p2 : (List Bool)) (K : (Bool × ((List Int) × (List Bool))) → Prop) : tfnN F_gravity_lowered A_gravity_lowered C_gravity_lowered 2 P_gravity_lowered R_gravity_lowered (p0, p1, p2) K = w_gravity_lowered p0 p1 p2 K := by kernel_rfl
def st_gravity_lowered_0 (p0 : (List (Int × (Int × (Int × Int))))) (p1 : (List Int)) (p2 : (List Bool)) (y0 : (Int × ((List Int) × (List Bool)))) (y2 : ((List Int) × ((List Bool) × Bool))) (z2 : (Int × (Int × Int))) : ((List Int) × ((List Bool) × Bool)) ⊕ ((Int × ((List Int) × (List Bool))) ⊕ (Bool × ((List Int) × (List Bool)))) :=
  (cond (!(List.getD y2.2.1 (Int.toNat z2.2.1) false)) (Sum.inl y2)
    (cond (cond (!(List.getD y2.2.1 (Int.toNat z2.1) false)) true (decide ((IntKind.i64.wrap ((List.getD y2.1 (Int.toNat z2.2.1) (0 : Int)) + z2.2.2)) < (List.getD y2.1 (Int.toNat z2.1) (0 : Int))))) (Sum.inl ((List.set y2.1 (Int.toNat z2.1) (IntKind.i64.wrap ((List.getD y2.1 (Int.toNat z2.2.1) (0 : Int)) + z2.2.2))), ((List.set y2.2.1 (Int.toNat z2.1) true), true)))
    (Sum.inl y2)))
abbrev sp_gravity_lowered_0 (p0 : (List (Int × (Int × (Int × Int))))) (p1 : (List Int)) (p2 : (List Bool)) (y0 : (Int × ((List Int) × (List Bool)))) (y2 : ((List Int) × ((List Bool) × Bool))) (z2 : (Int × (Int × Int))) : List Prop := [((0 : Int) ≤ z2.2.1),
    (z2.2.1 < (((List.length y2.2.1) : Nat) : Int)),
    (((!(List.getD y2.2.1 (Int.toNat z2.2.1) false)) = false) → ((0 : Int) ≤ z2.2.1)),
    (((!(List.getD y2.2.1 (Int.toNat z2.2.1) false)) = false) → (z2.2.1 < (((List.length y2.1) : Nat) : Int))),
    (((!(List.getD y2.2.1 (Int.toNat z2.2.1) false)) = false) → ((0 : Int) ≤ z2.1)),
    (((!(List.getD y2.2.1 (Int.toNat z2.2.1) false)) = false) → (z2.1 < (((List.length y2.2.1) : Nat) : Int))),
    (((!(List.getD y2.2.1 (Int.toNat z2.2.1) false)) = false) → (((!(List.getD y2.2.1 (Int.toNat z2.1) false)) = false) → ((0 : Int) ≤ z2.1))),
    (((!(List.getD y2.2.1 (Int.toNat z2.2.1) false)) = false) → (((!(List.getD y2.2.1 (Int.toNat z2.1) false)) = false) → (z2.1 < (((List.length y2.1) : Nat) : Int)))),
    (((!(List.getD y2.2.1 (Int.toNat z2.2.1) false)) = false) → (((cond (!(List.getD y2.2.1 (Int.toNat z2.1) false)) true (decide ((IntKind.i64.wrap ((List.getD y2.1 (Int.toNat z2.2.1) (0 : Int)) + z2.2.2)) < (List.getD y2.1 (Int.toNat z2.1) (0 : Int))))) = true) → ((0 : Int) ≤ z2.1))),
    (((!(List.getD y2.2.1 (Int.toNat z2.2.1) false)) = false) → (((cond (!(List.getD y2.2.1 (Int.toNat z2.1) false)) true (decide ((IntKind.i64.wrap ((List.getD y2.1 (Int.toNat z2.2.1) (0 : Int)) + z2.2.2)) < (List.getD y2.1 (Int.toNat z2.1) (0 : Int))))) = true) → (z2.1 < (((List.length y2.1) : Nat) : Int)))),
    (((!(List.getD y2.2.1 (Int.toNat z2.2.1) false)) = false) → (((cond (!(List.getD y2.2.1 (Int.toNat z2.1) false)) true (decide ((IntKind.i64.wrap ((List.getD y2.1 (Int.toNat z2.2.1) (0 : Int)) + z2.2.2)) < (List.getD y2.1 (Int.toNat z2.1) (0 : Int))))) = true) → (z2.1 < (((List.length y2.2.1) : Nat) : Int))))]
def sf_gravity_lowered_0 (p0 : (List (Int × (Int × (Int × Int))))) (p1 : (List Int)) (p2 : (List Bool)) (y0 : (Int × ((List Int) × (List Bool)))) (s2 : ((List Int) × ((List Bool) × Bool))) : ((Int × ((List Int) × (List Bool))) ⊕ (Bool × ((List Int) × (List Bool)))) :=
  (cond (!s2.2.2) (Sum.inr (true, (s2.1, s2.2.1)))
    (Sum.inl ((IntKind.i64.wrap (y0.1 + (1 : Int))), (s2.1, s2.2.1))))
abbrev sq_gravity_lowered_0 (p0 : (List (Int × (Int × (Int × Int))))) (p1 : (List Int)) (p2 : (List Bool)) (y0 : (Int × ((List Int) × (List Bool)))) (s2 : ((List Int) × ((List Bool) × Bool))) : List Prop := []
def st_gravity_lowered_1 (p0 : (List (Int × (Int × (Int × Int))))) (p1 : (List Int)) (p2 : (List Bool)) (y0 : (Int × ((List Int) × (List Bool)))) : (Int × ((List Int) × (List Bool))) ⊕ (Bool × ((List Int) × (List Bool))) :=
  (cond (decide (y0.1 < (IntKind.i64.wrap ((((List.length p1) : Nat) : Int) + (1 : Int))))) (rngV (st_gravity_lowered_0 p0 p1 p2 y0) (sf_gravity_lowered_0 p0 p1 p2 y0) (v_bounds p0) (y0.2.1, (y0.2.2, false)))
    (Sum.inr (false, y0.2)))
abbrev sp_gravity_lowered_1 (p0 : (List (Int × (Int × (Int × Int))))) (p1 : (List Int)) (p2 : (List Bool)) (y0 : (Int × ((List Int) × (List Bool)))) : List Prop := [(((decide (y0.1 < (IntKind.i64.wrap ((((List.length p1) : Nat) : Int) + (1 : Int))))) = true) → ((List.length p0) ≤ 1000000)),
    (((decide (y0.1 < (IntKind.i64.wrap ((((List.length p1) : Nat) : Int) + (1 : Int))))) = true) → (OkR (st_gravity_lowered_0 p0 p1 p2 y0) (sp_gravity_lowered_0 p0 p1 p2 y0) (sq_gravity_lowered_0 p0 p1 p2 y0) (v_bounds p0) (y0.2.1, (y0.2.2, false))))]
def s_gravity_lowered (p0 : (List (Int × (Int × (Int × Int))))) (p1 : (List Int)) (p2 : (List Bool)) : (Bool × ((List Int) × (List Bool))) :=
  (lpv (false, ([], [])) (st_gravity_lowered_1 p0 p1 p2) ((0 : Int), (p1, p2)))
abbrev pre_gravity_lowered (p0 : (List (Int × (Int × (Int × Int))))) (p1 : (List Int)) (p2 : (List Bool)) : List Prop := [(OkL (st_gravity_lowered_1 p0 p1 p2) (sp_gravity_lowered_1 p0 p1 p2) ((0 : Int), (p1, p2)))]
set_option maxHeartbeats 4000000 in
theorem d_gravity_lowered (p0 : (List (Int × (Int × (Int × Int))))) (p1 : (List Int)) (p2 : (List Bool)) (K : (Bool × ((List Int) × (List Bool))) → Prop) (hp : ∀ p ∈ pre_gravity_lowered p0 p1 p2, p) (h : K (s_gravity_lowered p0 p1 p2)) : w_gravity_lowered p0 p1 p2 K := by
  unfold w_gravity_lowered
  unfold s_gravity_lowered at h
  obtain ⟨hp0, _⟩ := conj_of hp
  exact (loop_gen (hp0) h (fun y0 k0 hp h => by
  unfold st_gravity_lowered_1 at h; obtain ⟨hp0, hp1, _⟩ := conj_of hp
  exact (br' h (fun e1 h => ⟨(hp0 e1), (rng_gen (hp1 e1) h (fun y2 z2 k2 hp h => by
  unfold st_gravity_lowered_0 at h; obtain ⟨hp0, hp1, hp2, hp3, hp4, hp5, hp6, hp7, hp8, hp9, hp10, _⟩ := conj_of hp
  exact ⟨(hp0), (hp1), (br' h (fun e3 h => h)
    (fun e3 h => ⟨(hp2 e3), (hp3 e3), (hp4 e3), (hp5 e3), rf, rf, rf, (hp6 e3), (hp7 e3), rf, rf, rf, rfl, (br' h (fun e4 h => ⟨(hp8 e3 e4), (hp9 e3 e4), (hp8 e3 e4), (hp10 e3 e4), h⟩)
    (fun e4 h => h))⟩))⟩) (fun s2 hp h => by
  unfold sf_gravity_lowered_0 at h
  exact (br' h (fun e5 h => h)
    (fun e5 h => h))))⟩)
    (fun e1 h => h))))
/-- A bound: of, from, more. One bound is kept; the state: values, which are known, whether something changed. -/
def v_rx (s : List Int × List Bool × Bool) (b : Int × Int × Int) : List Int × List Bool × Bool :=
  cond (s.2.1.getD b.2.1.toNat false && (!(s.2.1.getD b.1.toNat false) || decide (s.1.getD b.2.1.toNat 0 + b.2.2 < s.1.getD b.1.toNat 0)))
    (s.1.set b.1.toNat (s.1.getD b.2.1.toNat 0 + b.2.2), s.2.1.set b.1.toNat true, true) s
def v_rds (bs : List (Int × Int × Int)) (s : List Int × List Bool) : List Int × List Bool × Bool := bs.foldl v_rx (s.1, s.2, false)
def v_lowr (bs : List (Int × Int × Int)) : Nat → List Int × List Bool → Bool × List Int × List Bool
  | 0, s => (false, s)
  | n + 1, s => cond (v_rds bs s).2.2 (v_lowr bs n ((v_rds bs s).1, (v_rds bs s).2.1)) (true, (v_rds bs s).1, (v_rds bs s).2.1)
/-- The bounds of ties. -/
def v_bnd : List (Int × Int × Int × Int) → List (Int × Int × Int)
  | [] => []
  | t :: r => (t.2.1, t.1, t.2.2.2) :: (t.1, t.2.1, 0 - t.2.2.1) :: v_bnd r
structure v_nok (n : Nat) (l : List (Int × Int × Int × Int)) : Prop where
  n1 : 1 ≤ n
  n8 : n ≤ 8
  len : l.length ≤ 12
  all : ∀ t ∈ l, (0 ≤ t.1 ∧ t.1 < n) ∧ (0 ≤ t.2.1 ∧ t.2.1 < n) ∧ t.1 ≠ t.2.1 ∧ (-1000000 ≤ t.2.2.1 ∧ t.2.2.1 ≤ 1000000) ∧ (-1000000 ≤ t.2.2.2 ∧ t.2.2.2 ≤ 1000000) ∧ t.2.2.1 ≤ t.2.2.2
def v_bok (n : Nat) (b : Int × Int × Int) : Prop := (0 ≤ b.1 ∧ b.1 < n) ∧ (0 ≤ b.2.1 ∧ b.2.1 < n) ∧ (-1000000 ≤ b.2.2 ∧ b.2.2 ≤ 1000000)
theorem v_bnd_ok {n : Nat} : ∀ {l : List (Int × Int × Int × Int)}, (∀ t ∈ l, (0 ≤ t.1 ∧ t.1 < n) ∧ (0 ≤ t.2.1 ∧ t.2.1 < n) ∧ t.1 ≠ t.2.1 ∧ (-1000000 ≤ t.2.2.1 ∧ t.2.2.1 ≤ 1000000) ∧ (-1000000 ≤ t.2.2.2 ∧ t.2.2.2 ≤ 1000000) ∧ t.2.2.1 ≤ t.2.2.2) → ∀ b ∈ v_bnd l, v_bok n b
  | [], _, b, hb => by cases hb
  | t :: r, h, b, hb => by
    have ht := h t (by simp)
    simp only [v_bnd, List.mem_cons] at hb
    rcases hb with rfl | rfl | hb
    · exact ⟨ht.2.1, ht.1, ht.2.2.2.2.1⟩
    · exact ⟨ht.1, ht.2.1, by simp only; omega⟩
    · exact v_bnd_ok (fun t ht => h t (by simp [ht])) b hb
theorem v_bnd_len : ∀ l : List (Int × Int × Int × Int), (v_bnd l).length = 2 * l.length
  | [] => rfl
  | _ :: r => by simp only [v_bnd, List.length_cons, v_bnd_len r]; omega
/-- Values are small. -/
structure v_bd (n t : Nat) (v : List Int) (k : List Bool) : Prop where
  vl : v.length = n
  kl : k.length = n
  small : ∀ i, -(t * 1000000 : Int) ≤ v.getD i 0 ∧ v.getD i 0 ≤ t * 1000000
theorem v_rx_bd {n t : Nat} {s : List Int × List Bool × Bool} {b : Int × Int × Int} (h : v_bd n t s.1 s.2.1) (hb : v_bok n b) : v_bd n (t + 1) (v_rx s b).1 (v_rx s b).2.1 := by
  unfold v_rx
  cases (s.2.1.getD b.2.1.toNat false && (!(s.2.1.getD b.1.toNat false) || decide (s.1.getD b.2.1.toNat 0 + b.2.2 < s.1.getD b.1.toNat 0)))
  · exact ⟨h.vl, h.kl, fun i => by have := h.small i; simp only [cond_false]; omega⟩
  · refine ⟨by simp [h.vl], by simp [h.kl], fun i => ?_⟩
    simp only [cond_true, List.getD_eq_getElem?_getD, List.getElem?_set]
    have h1 := h.small b.2.1.toNat
    have h2 := h.small i
    simp only [List.getD_eq_getElem?_getD] at h1 h2
    obtain ⟨_, _, hb3⟩ := hb
    split
    · split
      · simp only [Option.getD_some]; omega
      · simp only [Option.getD_none]; omega
    · omega
theorem v_fold_bd {n : Nat} : ∀ (bs : List (Int × Int × Int)) {t : Nat} {s : List Int × List Bool × Bool}, v_bd n t s.1 s.2.1 → (∀ b ∈ bs, v_bok n b) → v_bd n (t + bs.length) (bs.foldl v_rx s).1 (bs.foldl v_rx s).2.1
  | [], _, _, h, _ => h
  | b :: bs, t, s, h, hb => by
    have := v_fold_bd bs (v_rx_bd h (hb b (by simp))) (fun c hc => hb c (by simp [hc]))
    rw [List.foldl_cons, List.length_cons, show t + (bs.length + 1) = t + 1 + bs.length by omega]
    exact this
theorem v_bounds_bnd {n : Nat} : ∀ {l : List (Int × Int × Int × Int)}, (∀ t ∈ l, (0 ≤ t.1 ∧ t.1 < n) ∧ (0 ≤ t.2.1 ∧ t.2.1 < n) ∧ t.1 ≠ t.2.1 ∧ (-1000000 ≤ t.2.2.1 ∧ t.2.2.1 ≤ 1000000) ∧ (-1000000 ≤ t.2.2.2 ∧ t.2.2.2 ≤ 1000000) ∧ t.2.2.1 ≤ t.2.2.2) → v_bounds l = v_bnd l
  | [], _ => rfl
  | t :: r, h => by
    have ht := h t (by simp)
    simp only [v_bounds, v_bnd]
    rw [wrap_id (by omega) (by omega), v_bounds_bnd fun t ht => h t (by simp [ht])]
theorem l_gravity_lowered_0 (p0 : List (Int × Int × Int × Int)) (p1 : List Int) (p2 : List Bool) (y0 : Int × List Int × List Bool) {n : Nat} : ∀ (bs : List (Int × Int × Int)) {t : Nat} {s : List Int × List Bool × Bool}, v_bd n t s.1 s.2.1 → (∀ b ∈ bs, v_bok n b) → t + bs.length ≤ 1000 →
    OkR (st_gravity_lowered_0 p0 p1 p2 y0) (sp_gravity_lowered_0 p0 p1 p2 y0) (sq_gravity_lowered_0 p0 p1 p2 y0) bs s ∧ rngV (st_gravity_lowered_0 p0 p1 p2 y0) (sf_gravity_lowered_0 p0 p1 p2 y0) bs s = sf_gravity_lowered_0 p0 p1 p2 y0 (bs.foldl v_rx s)
  | [], _, _, _, _, _ => ⟨by simp [OkR, sq_gravity_lowered_0], rfl⟩
  | b :: bs, t, s, h, hb, ht => by
    have hbok := hb b (by simp)
    obtain ⟨b1, b2, b3⟩ := hbok
    have sm1 := h.small b.2.1.toNat
    have vl := h.vl
    have kl := h.kl
    have hst : st_gravity_lowered_0 p0 p1 p2 y0 s b = .inl (v_rx s b) := by
      unfold st_gravity_lowered_0 v_rx
      rw [List.length_cons] at ht
      rw [wrap_id (by omega) (by omega)]
      cases s.2.1.getD b.2.1.toNat false <;> cases s.2.1.getD b.1.toNat false <;> cases decide (s.1.getD b.2.1.toNat 0 + b.2.2 < s.1.getD b.1.toNat 0) <;> rfl
    obtain ⟨i1, i2⟩ := l_gravity_lowered_0 p0 p1 p2 y0 bs (v_rx_bd h (hb b (by simp))) (fun c hc => hb c (by simp [hc])) (by rw [List.length_cons] at ht; omega)
    refine ⟨⟨?_, by rw [hst]; exact i1⟩, ?_⟩
    · simp only [sp_gravity_lowered_0, List.forall_mem_cons]
      refine ⟨?_, ?_, ?_, ?_, ?_, ?_, ?_, ?_, ?_, ?_, ?_, by simp⟩ <;> (intros; omega)
    · unfold rngV
      rw [hst]
      exact i2
theorem v_rds_bd {n t : Nat} {bs : List (Int × Int × Int)} {s : List Int × List Bool} (h : v_bd n t s.1 s.2) (hb : ∀ b ∈ bs, v_bok n b) : v_bd n (t + bs.length) (v_rds bs s).1 (v_rds bs s).2.1 := v_fold_bd bs (s := (s.1, s.2, false)) h hb
theorem l_gravity_lowered (p0 : List (Int × Int × Int × Int)) (p1 : List Int) (p2 : List Bool) (hn : v_nok p1.length p0) (h1 : ∀ i, p1.getD i 0 = 0) (h2 : p2.length = p1.length) :
    OkL (st_gravity_lowered_1 p0 p1 p2) (sp_gravity_lowered_1 p0 p1 p2) (0, p1, p2) ∧ s_gravity_lowered p0 p1 p2 = v_lowr (v_bnd p0) (p1.length + 1) (p1, p2) := by
  have n8 := hn.n8
  have hlen := hn.len
  have hbl := v_bnd_len p0
  have hbk := v_bnd_ok hn.all
  have := for_is (dd := (false, (([] : List Int), ([] : List Bool)))) (st := st_gravity_lowered_1 p0 p1 p2) (sp := sp_gravity_lowered_1 p0 p1 p2) (fun i (s : List Int × List Bool) => (i, s)) 0 (p1.length + 1)
    (fun j s => v_bd p1.length (24 * j) s.1 s.2) (fun j s => v_lowr (v_bnd p0) (p1.length + 1 - j) s) (by omega) (by omega) ?_ ?_ (p1, p2) ⟨rfl, h2, fun i => by rw [h1]; omega⟩
  · exact this
  · intro s _
    have hd : decide (((p1.length + 1 : Nat) : Int) < IntKind.i64.wrap ((p1.length : Int) + 1)) = false := by rw [wrap_id (by omega) (by omega)]; exact decide_eq_false (by omega)
    refine ⟨by simp only [sp_gravity_lowered_1, List.forall_mem_cons, hd]; simp, ?_⟩
    simp only [st_gravity_lowered_1, hd, cond_false, Nat.sub_self, v_lowr]
  · intro j s _ hj hs
    have hd : decide ((j : Int) < IntKind.i64.wrap ((p1.length : Int) + 1)) = true := by rw [wrap_id (by omega) (by omega)]; exact decide_eq_true (by omega)
    obtain ⟨g1, g2⟩ := l_gravity_lowered_0 p0 p1 p2 ((j : Int), s) (v_bnd p0) (s := (s.1, s.2, false)) hs hbk (by omega)
    rw [← v_bounds_bnd hn.all] at g1 g2
    have hr := v_rds_bd hs hbk
    refine ⟨by simp only [sp_gravity_lowered_1, List.forall_mem_cons]; exact ⟨fun _ => by omega, fun _ => g1, by simp⟩, ?_⟩
    simp only [st_gravity_lowered_1, hd, cond_true]
    rw [g2, v_bounds_bnd hn.all, show p1.length + 1 - j = p1.length + 1 - (j + 1) + 1 by omega, v_lowr]
    show (∃ t', sf_gravity_lowered_0 p0 p1 p2 ((j : Int), s) (v_rds (v_bnd p0) s) = _ ∧ _) ∨ sf_gravity_lowered_0 p0 p1 p2 ((j : Int), s) (v_rds (v_bnd p0) s) = _
    simp only [sf_gravity_lowered_0, wrap_nat (show (j : Int) ≤ 9223372036854775806 by omega)]
    cases hc : (v_rds (v_bnd p0) s).2.2
    · exact .inr rfl
    · refine .inl ⟨_, rfl, ?_, rfl⟩
      rw [show 24 * (j + 1) = 24 * j + 24 by omega]
      exact ⟨hr.vl, hr.kl, fun i => by have := hr.small i; dsimp only; omega⟩
theorem v_lowr_len (bs : List (Int × Int × Int)) : ∀ (n : Nat) (s : List Int × List Bool), (v_lowr bs n s).2.1.length = s.1.length ∧ (v_lowr bs n s).2.2.length = s.2.length
  | 0, s => ⟨rfl, rfl⟩
  | n + 1, s => by
    have key : ∀ (l : List (Int × Int × Int)) (u : List Int × List Bool × Bool), (l.foldl v_rx u).1.length = u.1.length ∧ (l.foldl v_rx u).2.1.length = u.2.1.length := by
      intro l
      induction l with
      | nil => intro u; exact ⟨rfl, rfl⟩
      | cons b l ih =>
        intro u
        rw [List.foldl_cons]
        obtain ⟨i1, i2⟩ := ih (v_rx u b)
        rw [i1, i2]
        unfold v_rx
        cases (u.2.1.getD b.2.1.toNat false && (!(u.2.1.getD b.1.toNat false) || decide (u.1.getD b.2.1.toNat 0 + b.2.2 < u.1.getD b.1.toNat 0))) <;> simp
    obtain ⟨k1, k2⟩ := key bs (s.1, s.2, false)
    rw [v_lowr]
    cases (v_rds bs s).2.2
    · exact ⟨k1, k2⟩
    · obtain ⟨i1, i2⟩ := v_lowr_len bs n ((v_rds bs s).1, (v_rds bs s).2.1)
      exact ⟨i1.trans k1, i2.trans k2⟩
structure v_lwok (p0 : List (Int × Int × Int × Int)) (p1 : List Int) (p2 : List Bool) : Prop where
  nok : v_nok p1.length p0
  zero : ∀ i, p1.getD i 0 = 0
  len : p2.length = p1.length
def v_lowl (p0 : List (Int × Int × Int × Int)) (p1 : List Int) (p2 : List Bool) : Bool × List Int × List Bool := v_lowr (v_bnd p0) (p1.length + 1) (p1, p2)
abbrev t_gravity_lowered (p0 : List (Int × Int × Int × Int)) (p1 : List Int) (p2 : List Bool) : Bool × List Int × List Bool := v_lowl p0 p1 p2
abbrev qre_gravity_lowered (p0 : List (Int × Int × Int × Int)) (p1 : List Int) (p2 : List Bool) : List Prop := [v_lwok p0 p1 p2]
theorem pp_gravity_lowered (p0 : List (Int × Int × Int × Int)) (p1 : List Int) (p2 : List Bool) (hq : ∀ p ∈ qre_gravity_lowered p0 p1 p2, p) : ∀ p ∈ pre_gravity_lowered p0 p1 p2, p := by
  simp only [pre_gravity_lowered, List.forall_mem_cons]
  obtain ⟨h1, h2, h3⟩ := (conj_of hq).1
  exact ⟨(l_gravity_lowered p0 p1 p2 h1 h2 h3).1, by simp⟩
theorem tt_gravity_lowered (p0 : List (Int × Int × Int × Int)) (p1 : List Int) (p2 : List Bool) (hq : ∀ p ∈ qre_gravity_lowered p0 p1 p2, p) : s_gravity_lowered p0 p1 p2 = t_gravity_lowered p0 p1 p2 := by
  obtain ⟨h1, h2, h3⟩ := (conj_of hq).1
  exact (l_gravity_lowered p0 p1 p2 h1 h2 h3).2
theorem hl_gravity_lowered (p0 : List (Int × Int × Int × Int)) (p1 : List Int) (p2 : List Bool) (_ : ∀ p ∈ qre_gravity_lowered p0 p1 p2, p) : ((valPs R_gravity_lowered (t_gravity_lowered p0 p1 p2)).drop (R_gravity_lowered.length - 2)).map (fun v => (slEs v).length) = ((valPs P_gravity_lowered (p0, p1, p2)).drop (P_gravity_lowered.length - 2)).map (fun v => (slEs v).length) := by
  obtain ⟨i1, i2⟩ := v_lowr_len (v_bnd p0) (p1.length + 1) (p1, p2)
  simp [valPs, valP, slEs, Ty.enc, t_gravity_lowered, v_lowl, i1, i2]

abbrev con_gravity_lowered : Con := ⟨P_gravity_lowered, R_gravity_lowered, fun x => qre_gravity_lowered x.1 x.2.1 x.2.2, fun x => t_gravity_lowered x.1 x.2.1 x.2.2⟩
theorem ok_gravity_lowered : ConNOk Tryd.prog 133 2 con_gravity_lowered := conN_tf k_gravity_lowered e_gravity_lowered hC_gravity_lowered con_gravity_lowered (by decide) (by decide) rfl rfl (fun x hx => tfN_of (w_gravity_lowered_eq x.1 x.2.1 x.2.2 (fun z => z = t_gravity_lowered x.1 x.2.1 x.2.2)) (d_gravity_lowered x.1 x.2.1 x.2.2 (fun z => z = t_gravity_lowered x.1 x.2.1 x.2.2) (pp_gravity_lowered x.1 x.2.1 x.2.2 hx) (tt_gravity_lowered x.1 x.2.1 x.2.2 hx))) (fun x hx => hl_gravity_lowered x.1 x.2.1 x.2.2 hx)
/- gravity_greatest -/
def C_gravity_greatest : Cons := [(134, ownMark, con_slices_Repeatbool_bool), (133, nMark 2, con_gravity_lowered)]
theorem hC_gravity_greatest : ConsOk Tryd.prog C_gravity_greatest := ConsOk.consO ok_slices_Repeatbool_bool <| ConsOk.consN ok_gravity_lowered <| ConsOk.nil
def w_gravity_greatest (p0 : Int) (p1 : (List (Int × (Int × (Int × Int))))) (K : ((List Int) × Bool) → Prop) : Prop :=
 (((0 : Int) ≤ p0) ∧
  ((((8 : Int) * p0) ≤ (281474976710656 : Int)) ∧
  ((p0 ≤ (9223372036854775807 : Int)) ∧
  (((List.length (true :: ([] : List Bool))) = 1) ∧
  (((0 : Int) ≤ p0) ∧
  ((p0 ≤ (1000000 : Int)) ∧
  ((0 < (List.length (List.replicate (Int.toNat p0) (0 : Int)))) ∧
  ((0 < (List.length (List.replicate (Int.toNat p0) true))) ∧
  ((v_lwok p1 (List.replicate (Int.toNat p0) (0 : Int)) (List.replicate (Int.toNat p0) true)) ∧
  (K ((v_lowl p1 (List.replicate (Int.toNat p0) (0 : Int)) (List.replicate (Int.toNat p0) true)).2.1, (v_lowl p1 (List.replicate (Int.toNat p0) (0 : Int)) (List.replicate (Int.toNat p0) true)).1)))))))))))
set_option maxHeartbeats 4000000 in
theorem w_gravity_greatest_eq (p0 : Int) (p1 : (List (Int × (Int × (Int × Int))))) (K : ((List Int) × Bool) → Prop) : tfn F_gravity_greatest A_gravity_greatest C_gravity_greatest P_gravity_greatest R_gravity_greatest (p0, p1) K = w_gravity_greatest p0 p1 K := by kernel_rfl
def s_gravity_greatest (p0 : Int) (p1 : (List (Int × (Int × (Int × Int))))) : ((List Int) × Bool) :=
  ((v_lowl p1 (List.replicate (Int.toNat p0) (0 : Int)) (List.replicate (Int.toNat p0) true)).2.1, (v_lowl p1 (List.replicate (Int.toNat p0) (0 : Int)) (List.replicate (Int.toNat p0) true)).1)
abbrev pre_gravity_greatest (p0 : Int) (p1 : (List (Int × (Int × (Int × Int))))) : List Prop := [((0 : Int) ≤ p0),
    (((8 : Int) * p0) ≤ (281474976710656 : Int)),
    (p0 ≤ (9223372036854775807 : Int)),
    ((List.length (true :: ([] : List Bool))) = 1),
    (p0 ≤ (1000000 : Int)),
    (0 < (List.length (List.replicate (Int.toNat p0) (0 : Int)))),
    (0 < (List.length (List.replicate (Int.toNat p0) true))),
    (v_lwok p1 (List.replicate (Int.toNat p0) (0 : Int)) (List.replicate (Int.toNat p0) true))]
set_option maxHeartbeats 4000000 in
theorem d_gravity_greatest (p0 : Int) (p1 : (List (Int × (Int × (Int × Int))))) (K : ((List Int) × Bool) → Prop) (hp : ∀ p ∈ pre_gravity_greatest p0 p1, p) (h : K (s_gravity_greatest p0 p1)) : w_gravity_greatest p0 p1 K := by
  unfold w_gravity_greatest
  unfold s_gravity_greatest at h
  obtain ⟨hp0, hp1, hp2, hp3, hp4, hp5, hp6, hp7, _⟩ := conj_of hp
  exact ⟨(hp0), (hp1), (hp2), (hp3), (hp0), (hp4), (hp5), (hp6), (hp7), h⟩
/-- The greatest values of at most 0; false: there are none. -/
def v_grt (n : Int) (l : List (Int × Int × Int × Int)) : List Int × Bool := ((v_lowl l (List.replicate n.toNat 0) (List.replicate n.toNat true)).2.1, (v_lowl l (List.replicate n.toNat 0) (List.replicate n.toNat true)).1)
def v_nokI (n : Int) (l : List (Int × Int × Int × Int)) : Prop := v_nok n.toNat l ∧ 0 ≤ n
theorem v_lwok_of {n : Int} {l : List (Int × Int × Int × Int)} {k : List Bool} (h : v_nokI n l) (hk : k.length = n.toNat) : v_lwok l (List.replicate n.toNat 0) k :=
  ⟨by rw [List.length_replicate]; exact h.1, fun i => by simp [List.getD_eq_getElem?_getD, List.getElem?_replicate]; split <;> rfl, by rw [List.length_replicate]; exact hk⟩
abbrev t_gravity_greatest (p0 : Int) (p1 : List (Int × Int × Int × Int)) : List Int × Bool := v_grt p0 p1
abbrev qre_gravity_greatest (p0 : Int) (p1 : List (Int × Int × Int × Int)) : List Prop := [v_nokI p0 p1]
theorem pp_gravity_greatest (p0 : Int) (p1 : List (Int × Int × Int × Int)) (hq : ∀ p ∈ qre_gravity_greatest p0 p1, p) : ∀ p ∈ pre_gravity_greatest p0 p1, p := by
  have h := (conj_of hq).1
  have h1 := h.1.n1
  have h8 := h.1.n8
  have h0 := h.2
  simp only [pre_gravity_greatest, List.forall_mem_cons, List.length_replicate]
  exact ⟨by omega, by omega, by omega, rfl, by omega, by omega, by omega, v_lwok_of h (by simp), by simp⟩
theorem tt_gravity_greatest (p0 : Int) (p1 : List (Int × Int × Int × Int)) (_ : ∀ p ∈ qre_gravity_greatest p0 p1, p) : s_gravity_greatest p0 p1 = t_gravity_greatest p0 p1 := rfl

abbrev con_gravity_greatest : Con := ⟨P_gravity_greatest, R_gravity_greatest, fun x => qre_gravity_greatest x.1 x.2, fun x => t_gravity_greatest x.1 x.2⟩
theorem ok_gravity_greatest : ConOk Tryd.prog 106 con_gravity_greatest := ⟨k_gravity_greatest, fun x hx => ret_tf (ps := P_gravity_greatest) (rs := R_gravity_greatest) (x := x) (y := t_gravity_greatest x.1 x.2) e_gravity_greatest hC_gravity_greatest (tf_of (w_gravity_greatest_eq x.1 x.2 (fun z => z = t_gravity_greatest x.1 x.2)) (d_gravity_greatest x.1 x.2 (fun z => z = t_gravity_greatest x.1 x.2) (pp_gravity_greatest x.1 x.2 hx) (tt_gravity_greatest x.1 x.2 hx)))⟩
/- gravity_within -/
def C_gravity_within : Cons := []
theorem hC_gravity_within : ConsOk Tryd.prog C_gravity_within := ConsOk.nil
def w_gravity_within (p0 : Int) (p1 : Int) (p2 : Int) (K : Bool → Prop) : Prop :=
 ((((decide (p1 ≤ p0)) = true) →
  ((decide (p1 ≤ p0)) = (decide (p1 ≤ p0)))) ∧
  ((((decide (p1 ≤ p0)) = true) →
  ((decide (p1 ≤ p0)) = (decide (p1 ≤ p0)))) ∧
  (((decide (p1 ≤ p0)) = (decide (p1 ≤ p0))) ∧
  (K (cond (decide (p1 ≤ p0)) (decide (p0 ≤ p2)) false)))))
set_option maxHeartbeats 4000000 in
theorem w_gravity_within_eq (p0 : Int) (p1 : Int) (p2 : Int) (K : Bool → Prop) : tfn F_gravity_within A_gravity_within C_gravity_within P_gravity_within R_gravity_within (p0, p1, p2) K = w_gravity_within p0 p1 p2 K := by kernel_rfl
def s_gravity_within (p0 : Int) (p1 : Int) (p2 : Int) : Bool :=
  (cond (decide (p1 ≤ p0)) (decide (p0 ≤ p2)) false)
abbrev pre_gravity_within (p0 : Int) (p1 : Int) (p2 : Int) : List Prop := []
set_option maxHeartbeats 4000000 in
theorem d_gravity_within (p0 : Int) (p1 : Int) (p2 : Int) (K : Bool → Prop) (hp : ∀ p ∈ pre_gravity_within p0 p1 p2, p) (h : K (s_gravity_within p0 p1 p2)) : w_gravity_within p0 p1 p2 K := by
  unfold w_gravity_within
  unfold s_gravity_within at h
  exact ⟨rf, rf, rfl, h⟩
abbrev con_gravity_within : Con := ⟨P_gravity_within, R_gravity_within, fun x => pre_gravity_within x.1 x.2.1 x.2.2, fun x => s_gravity_within x.1 x.2.1 x.2.2⟩
theorem ok_gravity_within : ConOk Tryd.prog 94 con_gravity_within := ⟨k_gravity_within, fun x hx => ret_tf (ps := P_gravity_within) (rs := R_gravity_within) (x := x) (y := s_gravity_within x.1 x.2.1 x.2.2) e_gravity_within hC_gravity_within (tf_of (w_gravity_within_eq x.1 x.2.1 x.2.2 (fun z => z = s_gravity_within x.1 x.2.1 x.2.2)) (d_gravity_within x.1 x.2.1 x.2.2 (fun z => z = s_gravity_within x.1 x.2.1 x.2.2) hx rfl))⟩
theorem tx_within {n lo hi : Int} : s_gravity_within n lo hi = true ↔ lo ≤ n ∧ n ≤ hi := by unfold s_gravity_within; simp
/- gravity_unless -/
def C_gravity_unless : Cons := []
theorem hC_gravity_unless : ConsOk Tryd.prog C_gravity_unless := ConsOk.nil
def w_gravity_unless (p0 : Bool) (p1 : Int) (K : Int → Prop) : Prop :=
 (((p0 = true) →
  (K (0 : Int))) ∧
  ((p0 = false) →
  (K p1)))
set_option maxHeartbeats 4000000 in
theorem w_gravity_unless_eq (p0 : Bool) (p1 : Int) (K : Int → Prop) : tfn F_gravity_unless A_gravity_unless C_gravity_unless P_gravity_unless R_gravity_unless (p0, p1) K = w_gravity_unless p0 p1 K := by kernel_rfl
def s_gravity_unless (p0 : Bool) (p1 : Int) : Int :=
  (cond p0 (0 : Int)
    p1)
abbrev pre_gravity_unless (p0 : Bool) (p1 : Int) : List Prop := []
set_option maxHeartbeats 4000000 in
theorem d_gravity_unless (p0 : Bool) (p1 : Int) (K : Int → Prop) (hp : ∀ p ∈ pre_gravity_unless p0 p1, p) (h : K (s_gravity_unless p0 p1)) : w_gravity_unless p0 p1 K := by
  unfold w_gravity_unless
  unfold s_gravity_unless at h
  exact (br' h (fun e0 h => h)
    (fun e0 h => h))
abbrev con_gravity_unless : Con := ⟨P_gravity_unless, R_gravity_unless, fun x => pre_gravity_unless x.1 x.2, fun x => s_gravity_unless x.1 x.2⟩
theorem ok_gravity_unless : ConOk Tryd.prog 89 con_gravity_unless := ⟨k_gravity_unless, fun x hx => ret_tf (ps := P_gravity_unless) (rs := R_gravity_unless) (x := x) (y := s_gravity_unless x.1 x.2) e_gravity_unless hC_gravity_unless (tf_of (w_gravity_unless_eq x.1 x.2 (fun z => z = s_gravity_unless x.1 x.2)) (d_gravity_unless x.1 x.2 (fun z => z = s_gravity_unless x.1 x.2) hx rfl))⟩
theorem tx_unless0' {a : Bool} {x : Int} (hx : x ≠ 0) (h : s_gravity_unless a x = 0) : a = true := by
  cases a
  · exact (hx h).elim
  · rfl
theorem tx_andU {a b : Bool} (h : (cond a b false) = true) : a = true ∧ b = true := by cases a <;> simp_all
/- gravity_first -/
def C_gravity_first : Cons := []
theorem hC_gravity_first : ConsOk Tryd.prog C_gravity_first := ConsOk.nil
def w_gravity_first (p0 : (List Int)) (K : Int → Prop) : Prop :=
 (∃ n0, (loopP (fun (y1 : Int) k2 =>
    ((((decide (y1 < (((List.length p0) : Nat) : Int))) = true) →
    (((0 : Int) ≤ y1) ∧
      ((y1 < (((List.length p0) : Nat) : Int)) ∧
      (((((List.getD p0 (Int.toNat y1) (0 : Int)) != (0 : Int)) = true) →
      (K (List.getD p0 (Int.toNat y1) (0 : Int)))) ∧
      ((((List.getD p0 (Int.toNat y1) (0 : Int)) != (0 : Int)) = false) →
      (k2 (IntKind.i64.wrap (y1 + (1 : Int))))))))) ∧
    (((decide (y1 < (((List.length p0) : Nat) : Int))) = false) →
    (K (0 : Int))))) n0 (0 : Int)))
set_option maxHeartbeats 4000000 in
theorem w_gravity_first_eq (p0 : (List Int)) (K : Int → Prop) : tfn F_gravity_first A_gravity_first C_gravity_first P_gravity_first R_gravity_first p0 K = w_gravity_first p0 K := by kernel_rfl
def st_gravity_first_0 (p0 : (List Int)) (y0 : Int) : Int ⊕ Int :=
  (cond (decide (y0 < (((List.length p0) : Nat) : Int))) (cond ((List.getD p0 (Int.toNat y0) (0 : Int)) != (0 : Int)) (Sum.inr (List.getD p0 (Int.toNat y0) (0 : Int)))
    (Sum.inl (IntKind.i64.wrap (y0 + (1 : Int)))))
    (Sum.inr (0 : Int)))
abbrev sp_gravity_first_0 (p0 : (List Int)) (y0 : Int) : List Prop := [(((decide (y0 < (((List.length p0) : Nat) : Int))) = true) → ((0 : Int) ≤ y0)),
    (((decide (y0 < (((List.length p0) : Nat) : Int))) = true) → (y0 < (((List.length p0) : Nat) : Int)))]
def s_gravity_first (p0 : (List Int)) : Int :=
  (lpv (0 : Int) (st_gravity_first_0 p0) (0 : Int))
abbrev pre_gravity_first (p0 : (List Int)) : List Prop := [(OkL (st_gravity_first_0 p0) (sp_gravity_first_0 p0) (0 : Int))]
set_option maxHeartbeats 4000000 in
theorem d_gravity_first (p0 : (List Int)) (K : Int → Prop) (hp : ∀ p ∈ pre_gravity_first p0, p) (h : K (s_gravity_first p0)) : w_gravity_first p0 K := by
  unfold w_gravity_first
  unfold s_gravity_first at h
  obtain ⟨hp0, _⟩ := conj_of hp
  exact (loop_gen (hp0) h (fun y0 k0 hp h => by
  unfold st_gravity_first_0 at h; obtain ⟨hp0, hp1, _⟩ := conj_of hp
  exact (br' h (fun e1 h => ⟨(hp0 e1), (hp1 e1), (br' h (fun e2 h => h)
    (fun e2 h => h))⟩)
    (fun e1 h => h))))
theorem l_gravity_first_0 (p0 : List Int) (hl : lenOk p0) : OkL (st_gravity_first_0 p0) (sp_gravity_first_0 p0) 0 ∧ lpv (0 : Int) (st_gravity_first_0 p0) 0 = v_scan (fun _ x => cond (x != 0) (some x) none) (0 : Int) 0 p0 := by
  refine scan_is p0 0 (fun _ x => cond (x != 0) (some x) none) (0 : Int) hl ?_ ?_
  · refine ⟨by simp only [sp_gravity_first_0, List.forall_mem_cons, decide_eq_true_eq]; simp, by simp [st_gravity_first_0]⟩
  · intro j hj
    have hj' : (j : Int) < p0.length := by omega
    refine ⟨by simp only [sp_gravity_first_0, List.forall_mem_cons, decide_eq_true_eq, Int.toNat_natCast]; simp <;> omega, ?_⟩
    simp only [st_gravity_first_0, hj', decide_true, Int.toNat_natCast, cond_true, wrap_nat (show (j : Int) ≤ 9223372036854775806 by unfold lenOk at hl; omega)]
    generalize p0.getD j 0 = x
    cases (x != 0) <;> rfl
abbrev t_gravity_first (p0 : List Int) : Int := v_first p0
abbrev qre_gravity_first (p0 : List Int) : List Prop := [lenOk p0]
theorem pp_gravity_first (p0 : List Int) (hq : ∀ p ∈ qre_gravity_first p0, p) : ∀ p ∈ pre_gravity_first p0, p := by
  simp only [pre_gravity_first, List.forall_mem_cons]
  exact ⟨(l_gravity_first_0 p0 (conj_of hq).1).1, by simp⟩
theorem tt_gravity_first (p0 : List Int) (hq : ∀ p ∈ qre_gravity_first p0, p) : s_gravity_first p0 = t_gravity_first p0 := by
  exact (l_gravity_first_0 p0 (conj_of hq).1).2.trans (v_first_scan p0 0)

abbrev con_gravity_first : Con := ⟨P_gravity_first, R_gravity_first, fun x => qre_gravity_first x, fun x => t_gravity_first x⟩
theorem ok_gravity_first : ConOk Tryd.prog 88 con_gravity_first := ⟨k_gravity_first, fun x hx => ret_tf (ps := P_gravity_first) (rs := R_gravity_first) (x := x) (y := t_gravity_first x) e_gravity_first hC_gravity_first (tf_of (w_gravity_first_eq x (fun z => z = t_gravity_first x)) (d_gravity_first x (fun z => z = t_gravity_first x) (pp_gravity_first x hx) (tt_gravity_first x hx)))⟩
/- gravity_isSized -/
def C_gravity_isSized : Cons := [(94, [], con_gravity_within)]
theorem hC_gravity_isSized : ConsOk Tryd.prog C_gravity_isSized := ConsOk.cons ok_gravity_within <| ConsOk.nil
def w_gravity_isSized (p0 : Int) (p1 : Int) (K : Bool → Prop) : Prop :=
 (K (s_gravity_within p0 (IntKind.i64.wrap ((0 : Int) - p1)) p1))
set_option maxHeartbeats 4000000 in
theorem w_gravity_isSized_eq (p0 : Int) (p1 : Int) (K : Bool → Prop) : tfn F_gravity_isSized A_gravity_isSized C_gravity_isSized P_gravity_isSized R_gravity_isSized (p0, p1) K = w_gravity_isSized p0 p1 K := by kernel_rfl
def s_gravity_isSized (p0 : Int) (p1 : Int) : Bool :=
  (s_gravity_within p0 (IntKind.i64.wrap ((0 : Int) - p1)) p1)
abbrev pre_gravity_isSized (p0 : Int) (p1 : Int) : List Prop := []
set_option maxHeartbeats 4000000 in
theorem d_gravity_isSized (p0 : Int) (p1 : Int) (K : Bool → Prop) (hp : ∀ p ∈ pre_gravity_isSized p0 p1, p) (h : K (s_gravity_isSized p0 p1)) : w_gravity_isSized p0 p1 K := by
  unfold w_gravity_isSized
  unfold s_gravity_isSized at h
  exact h
abbrev con_gravity_isSized : Con := ⟨P_gravity_isSized, R_gravity_isSized, fun x => pre_gravity_isSized x.1 x.2, fun x => s_gravity_isSized x.1 x.2⟩
theorem ok_gravity_isSized : ConOk Tryd.prog 93 con_gravity_isSized := ⟨k_gravity_isSized, fun x hx => ret_tf (ps := P_gravity_isSized) (rs := R_gravity_isSized) (x := x) (y := s_gravity_isSized x.1 x.2) e_gravity_isSized hC_gravity_isSized (tf_of (w_gravity_isSized_eq x.1 x.2 (fun z => z = s_gravity_isSized x.1 x.2)) (d_gravity_isSized x.1 x.2 (fun z => z = s_gravity_isSized x.1 x.2) hx rfl))⟩
/- gravity_rangeErr -/
def C_gravity_rangeErr : Cons := [(93, [], con_gravity_isSized), (89, [], con_gravity_unless), (88, [], con_gravity_first)]
theorem hC_gravity_rangeErr : ConsOk Tryd.prog C_gravity_rangeErr := ConsOk.cons ok_gravity_isSized <| ConsOk.cons ok_gravity_unless <| ConsOk.cons ok_gravity_first <| ConsOk.nil
def w_gravity_rangeErr (p0 : (Int × Int)) (p1 : Int) (K : Int → Prop) : Prop :=
 ((((s_gravity_isSized p0.1 p1) = true) →
  ((s_gravity_isSized p0.1 p1) = (s_gravity_isSized p0.1 p1))) ∧
  ((((s_gravity_isSized p0.1 p1) = true) →
  ((s_gravity_isSized p0.1 p1) = (s_gravity_isSized p0.1 p1))) ∧
  ((((s_gravity_isSized p0.1 p1) = true) →
  ((s_gravity_isSized p0.1 p1) = (s_gravity_isSized p0.1 p1))) ∧
  (((s_gravity_isSized p0.1 p1) = (s_gravity_isSized p0.1 p1)) ∧
  ((lenOk ((s_gravity_unless (cond (s_gravity_isSized p0.1 p1) (s_gravity_isSized p0.2 p1) false) (2 : Int)) :: ((s_gravity_unless (decide (p0.1 ≤ p0.2)) (9 : Int)) :: ([] : List Int)))) ∧
  (K (v_first ((s_gravity_unless (cond (s_gravity_isSized p0.1 p1) (s_gravity_isSized p0.2 p1) false) (2 : Int)) :: ((s_gravity_unless (decide (p0.1 ≤ p0.2)) (9 : Int)) :: ([] : List Int))))))))))
set_option maxHeartbeats 4000000 in
theorem w_gravity_rangeErr_eq (p0 : (Int × Int)) (p1 : Int) (K : Int → Prop) : tfn F_gravity_rangeErr A_gravity_rangeErr C_gravity_rangeErr P_gravity_rangeErr R_gravity_rangeErr (p0, p1) K = w_gravity_rangeErr p0 p1 K := by kernel_rfl
def s_gravity_rangeErr (p0 : (Int × Int)) (p1 : Int) : Int :=
  (v_first ((s_gravity_unless (cond (s_gravity_isSized p0.1 p1) (s_gravity_isSized p0.2 p1) false) (2 : Int)) :: ((s_gravity_unless (decide (p0.1 ≤ p0.2)) (9 : Int)) :: ([] : List Int))))
abbrev pre_gravity_rangeErr (p0 : (Int × Int)) (p1 : Int) : List Prop := []
set_option maxHeartbeats 4000000 in
theorem d_gravity_rangeErr (p0 : (Int × Int)) (p1 : Int) (K : Int → Prop) (hp : ∀ p ∈ pre_gravity_rangeErr p0 p1, p) (h : K (s_gravity_rangeErr p0 p1)) : w_gravity_rangeErr p0 p1 K := by
  unfold w_gravity_rangeErr
  unfold s_gravity_rangeErr at h
  exact ⟨rf, rf, rf, rfl, (lenOk_of 2 rfl (by decide)), h⟩
abbrev con_gravity_rangeErr : Con := ⟨P_gravity_rangeErr, R_gravity_rangeErr, fun x => pre_gravity_rangeErr x.1 x.2, fun x => s_gravity_rangeErr x.1 x.2⟩
theorem ok_gravity_rangeErr : ConOk Tryd.prog 98 con_gravity_rangeErr := ⟨k_gravity_rangeErr, fun x hx => ret_tf (ps := P_gravity_rangeErr) (rs := R_gravity_rangeErr) (x := x) (y := s_gravity_rangeErr x.1 x.2) e_gravity_rangeErr hC_gravity_rangeErr (tf_of (w_gravity_rangeErr_eq x.1 x.2 (fun z => z = s_gravity_rangeErr x.1 x.2)) (d_gravity_rangeErr x.1 x.2 (fun z => z = s_gravity_rangeErr x.1 x.2) hx rfl))⟩
theorem tx_within' {n lo hi : Int} : s_gravity_within n lo hi = true ↔ lo ≤ n ∧ n ≤ hi := by unfold s_gravity_within; simp
theorem tx_range3 {x : Int × Int} (h : s_gravity_rangeErr x 1000000 = 0) : (-1000000 ≤ x.1 ∧ x.1 ≤ 1000000) ∧ (-1000000 ≤ x.2 ∧ x.2 ≤ 1000000) ∧ x.1 ≤ x.2 := by
  unfold s_gravity_rangeErr s_gravity_isSized at h
  rw [show IntKind.i64.wrap (0 - 1000000) = -1000000 from rfl] at h
  obtain ⟨h1, h⟩ := v_first0 h
  obtain ⟨h2, _⟩ := v_first0 h
  cases a : s_gravity_within x.1 (-1000000) 1000000 <;> cases b : s_gravity_within x.2 (-1000000) 1000000 <;> by_cases c : x.1 ≤ x.2 <;> simp [s_gravity_unless, a, b, c] at h1 h2
  exact ⟨tx_within'.1 a, tx_within'.1 b, c⟩
/- gravity_CheckNet -/
def C_gravity_CheckNet : Cons := [(94, [], con_gravity_within), (89, [], con_gravity_unless), (88, [], con_gravity_first), (98, [], con_gravity_rangeErr)]
theorem hC_gravity_CheckNet : ConsOk Tryd.prog C_gravity_CheckNet := ConsOk.cons ok_gravity_within <| ConsOk.cons ok_gravity_unless <| ConsOk.cons ok_gravity_first <| ConsOk.cons ok_gravity_rangeErr <| ConsOk.nil
abbrev q0_gravity_CheckNet (p0 : (Int × (List (Int × (Int × (Int × Int)))))) (y1 : Int) := (List.getD p0.2 (Int.toNat y1) (zz0, (zz0, (zz0, zz0))))
abbrev q1_gravity_CheckNet (p0 : (Int × (List (Int × (Int × (Int × Int)))))) (y1 : Int) := ((s_gravity_unless ((q0_gravity_CheckNet p0 y1).1 != (q0_gravity_CheckNet p0 y1).2.1) (13 : Int)) :: ((s_gravity_rangeErr (q0_gravity_CheckNet p0 y1).2.2 (1000000 : Int)) :: ([] : List Int)))
abbrev q2_gravity_CheckNet (p0 : (Int × (List (Int × (Int × (Int × Int)))))) := ((s_gravity_unless (s_gravity_within p0.1 zz1 (8 : Int)) zz2) :: ((s_gravity_unless (decide ((((List.length p0.2) : Nat) : Int) ≤ (12 : Int))) (8 : Int)) :: ([] : List Int)))
def w_gravity_CheckNet (p0 : (Int × (List (Int × (Int × (Int × Int)))))) (K : (Int × Int) → Prop) : Prop :=
 ((lenOk (q2_gravity_CheckNet p0)) ∧
  (((((v_first (q2_gravity_CheckNet p0)) != zz0) = true) →
  (K (zz0, (v_first (q2_gravity_CheckNet p0))))) ∧
  ((((v_first (q2_gravity_CheckNet p0)) != zz0) = false) →
  (∃ n0, (loopP (fun (y1 : Int) k2 =>
      ((((decide (y1 < (((List.length p0.2) : Nat) : Int))) = true) →
      ((zz0 ≤ y1) ∧
        ((y1 < (((List.length p0.2) : Nat) : Int)) ∧
        ((((s_gravity_within (q0_gravity_CheckNet p0 y1).1 zz0 (wi (p0.1 - zz1))) = true) →
        ((s_gravity_within (q0_gravity_CheckNet p0 y1).1 zz0 (wi (p0.1 - zz1))) = (s_gravity_within (q0_gravity_CheckNet p0 y1).1 zz0 (wi (p0.1 - zz1))))) ∧
        ((((s_gravity_within (q0_gravity_CheckNet p0 y1).1 zz0 (wi (p0.1 - zz1))) = true) →
        ((s_gravity_within (q0_gravity_CheckNet p0 y1).1 zz0 (wi (p0.1 - zz1))) = (s_gravity_within (q0_gravity_CheckNet p0 y1).1 zz0 (wi (p0.1 - zz1))))) ∧
        ((((s_gravity_within (q0_gravity_CheckNet p0 y1).1 zz0 (wi (p0.1 - zz1))) = true) →
        ((s_gravity_within (q0_gravity_CheckNet p0 y1).1 zz0 (wi (p0.1 - zz1))) = (s_gravity_within (q0_gravity_CheckNet p0 y1).1 zz0 (wi (p0.1 - zz1))))) ∧
        ((((s_gravity_within (q0_gravity_CheckNet p0 y1).1 zz0 (wi (p0.1 - zz1))) = true) →
        ((s_gravity_within (q0_gravity_CheckNet p0 y1).1 zz0 (wi (p0.1 - zz1))) = (s_gravity_within (q0_gravity_CheckNet p0 y1).1 zz0 (wi (p0.1 - zz1))))) ∧
        ((((s_gravity_within (q0_gravity_CheckNet p0 y1).1 zz0 (wi (p0.1 - zz1))) = true) →
        ((s_gravity_within (q0_gravity_CheckNet p0 y1).1 zz0 (wi (p0.1 - zz1))) = (s_gravity_within (q0_gravity_CheckNet p0 y1).1 zz0 (wi (p0.1 - zz1))))) ∧
        (((s_gravity_within (q0_gravity_CheckNet p0 y1).1 zz0 (wi (p0.1 - zz1))) = (s_gravity_within (q0_gravity_CheckNet p0 y1).1 zz0 (wi (p0.1 - zz1)))) ∧
        ((lenOk ((s_gravity_unless (cond (s_gravity_within (q0_gravity_CheckNet p0 y1).1 zz0 (wi (p0.1 - zz1))) (s_gravity_within (q0_gravity_CheckNet p0 y1).2.1 zz0 (wi (p0.1 - zz1))) false) (6 : Int)) :: (q1_gravity_CheckNet p0 y1))) ∧
        (((((v_first ((s_gravity_unless (cond (s_gravity_within (q0_gravity_CheckNet p0 y1).1 zz0 (wi (p0.1 - zz1))) (s_gravity_within (q0_gravity_CheckNet p0 y1).2.1 zz0 (wi (p0.1 - zz1))) false) (6 : Int)) :: (q1_gravity_CheckNet p0 y1))) != zz0) = true) →
        (K (y1, (v_first ((s_gravity_unless (cond (s_gravity_within (q0_gravity_CheckNet p0 y1).1 zz0 (wi (p0.1 - zz1))) (s_gravity_within (q0_gravity_CheckNet p0 y1).2.1 zz0 (wi (p0.1 - zz1))) false) (6 : Int)) :: (q1_gravity_CheckNet p0 y1)))))) ∧
        ((((v_first ((s_gravity_unless (cond (s_gravity_within (q0_gravity_CheckNet p0 y1).1 zz0 (wi (p0.1 - zz1))) (s_gravity_within (q0_gravity_CheckNet p0 y1).2.1 zz0 (wi (p0.1 - zz1))) false) (6 : Int)) :: (q1_gravity_CheckNet p0 y1))) != zz0) = false) →
        (k2 (wi (y1 + zz1))))))))))))))) ∧
      (((decide (y1 < (((List.length p0.2) : Nat) : Int))) = false) →
      (K (zz0, zz0))))) n0 zz0)))))
set_option maxHeartbeats 4000000 in
theorem w_gravity_CheckNet_eq (p0 : (Int × (List (Int × (Int × (Int × Int)))))) (K : (Int × Int) → Prop) : tfn F_gravity_CheckNet A_gravity_CheckNet C_gravity_CheckNet P_gravity_CheckNet R_gravity_CheckNet p0 K = w_gravity_CheckNet p0 K := by kernel_rfl
def st_gravity_CheckNet_0 (p0 : (Int × (List (Int × (Int × (Int × Int)))))) (y1 : Int) : Int ⊕ (Int × Int) :=
  (cond (decide (y1 < (((List.length p0.2) : Nat) : Int))) (cond ((v_first ((s_gravity_unless (cond (s_gravity_within (List.getD p0.2 (Int.toNat y1) ((0 : Int), ((0 : Int), ((0 : Int), (0 : Int))))).1 (0 : Int) (IntKind.i64.wrap (p0.1 - (1 : Int)))) (s_gravity_within (List.getD p0.2 (Int.toNat y1) ((0 : Int), ((0 : Int), ((0 : Int), (0 : Int))))).2.1 (0 : Int) (IntKind.i64.wrap (p0.1 - (1 : Int)))) false) (6 : Int)) :: ((s_gravity_unless ((List.getD p0.2 (Int.toNat y1) ((0 : Int), ((0 : Int), ((0 : Int), (0 : Int))))).1 != (List.getD p0.2 (Int.toNat y1) ((0 : Int), ((0 : Int), ((0 : Int), (0 : Int))))).2.1) (13 : Int)) :: ((s_gravity_rangeErr (List.getD p0.2 (Int.toNat y1) ((0 : Int), ((0 : Int), ((0 : Int), (0 : Int))))).2.2 (1000000 : Int)) :: ([] : List Int))))) != (0 : Int)) (Sum.inr (y1, (v_first ((s_gravity_unless (cond (s_gravity_within (List.getD p0.2 (Int.toNat y1) ((0 : Int), ((0 : Int), ((0 : Int), (0 : Int))))).1 (0 : Int) (IntKind.i64.wrap (p0.1 - (1 : Int)))) (s_gravity_within (List.getD p0.2 (Int.toNat y1) ((0 : Int), ((0 : Int), ((0 : Int), (0 : Int))))).2.1 (0 : Int) (IntKind.i64.wrap (p0.1 - (1 : Int)))) false) (6 : Int)) :: ((s_gravity_unless ((List.getD p0.2 (Int.toNat y1) ((0 : Int), ((0 : Int), ((0 : Int), (0 : Int))))).1 != (List.getD p0.2 (Int.toNat y1) ((0 : Int), ((0 : Int), ((0 : Int), (0 : Int))))).2.1) (13 : Int)) :: ((s_gravity_rangeErr (List.getD p0.2 (Int.toNat y1) ((0 : Int), ((0 : Int), ((0 : Int), (0 : Int))))).2.2 (1000000 : Int)) :: ([] : List Int)))))))
    (Sum.inl (IntKind.i64.wrap (y1 + (1 : Int)))))
    (Sum.inr ((0 : Int), (0 : Int))))
abbrev sp_gravity_CheckNet_0 (p0 : (Int × (List (Int × (Int × (Int × Int)))))) (y1 : Int) : List Prop := [(((decide (y1 < (((List.length p0.2) : Nat) : Int))) = true) → ((0 : Int) ≤ y1)),
    (((decide (y1 < (((List.length p0.2) : Nat) : Int))) = true) → (y1 < (((List.length p0.2) : Nat) : Int)))]
def s_gravity_CheckNet (p0 : (Int × (List (Int × (Int × (Int × Int)))))) : (Int × Int) :=
  (cond ((v_first ((s_gravity_unless (s_gravity_within p0.1 (1 : Int) (8 : Int)) (2 : Int)) :: ((s_gravity_unless (decide ((((List.length p0.2) : Nat) : Int) ≤ (12 : Int))) (8 : Int)) :: ([] : List Int)))) != (0 : Int)) ((0 : Int), (v_first ((s_gravity_unless (s_gravity_within p0.1 (1 : Int) (8 : Int)) (2 : Int)) :: ((s_gravity_unless (decide ((((List.length p0.2) : Nat) : Int) ≤ (12 : Int))) (8 : Int)) :: ([] : List Int)))))
    (lpv ((0 : Int), (0 : Int)) (st_gravity_CheckNet_0 p0) (0 : Int)))
abbrev pre_gravity_CheckNet (p0 : (Int × (List (Int × (Int × (Int × Int)))))) : List Prop := [((((v_first ((s_gravity_unless (s_gravity_within p0.1 (1 : Int) (8 : Int)) (2 : Int)) :: ((s_gravity_unless (decide ((((List.length p0.2) : Nat) : Int) ≤ (12 : Int))) (8 : Int)) :: ([] : List Int)))) != (0 : Int)) = false) → (OkL (st_gravity_CheckNet_0 p0) (sp_gravity_CheckNet_0 p0) (0 : Int)))]
set_option maxHeartbeats 4000000 in
theorem d_gravity_CheckNet (p0 : (Int × (List (Int × (Int × (Int × Int)))))) (K : (Int × Int) → Prop) (hp : ∀ p ∈ pre_gravity_CheckNet p0, p) (h : K (s_gravity_CheckNet p0)) : w_gravity_CheckNet p0 K := by
  unfold w_gravity_CheckNet
  unfold s_gravity_CheckNet at h
  obtain ⟨hp0, _⟩ := conj_of hp
  exact ⟨(lenOk_of 2 rfl (by decide)), (br' h (fun e0 h => h)
    (fun e0 h => (loop_gen (hp0 e0) h (fun y1 k1 hp h => by
  unfold st_gravity_CheckNet_0 at h; obtain ⟨hp0, hp1, _⟩ := conj_of hp
  exact (br' h (fun e2 h => ⟨(hp0 e2), (hp1 e2), rf, rf, rf, rf, rf, rfl, (lenOk_of 3 rfl (by decide)), (br' h (fun e3 h => h)
    (fun e3 h => h))⟩)
    (fun e2 h => h))))))⟩
/-- The error of a tie, of a net without its ties, of a net. -/
def v_tierr (n : Int) (t : Int × Int × Int × Int) : Int := v_first (s_gravity_unless (cond (s_gravity_within t.1 0 (IntKind.i64.wrap (n - 1))) (s_gravity_within t.2.1 0 (IntKind.i64.wrap (n - 1))) false) 6 :: s_gravity_unless (t.1 != t.2.1) 13 :: s_gravity_rangeErr t.2.2 1000000 :: [])
def v_neterr (p0 : Int × List (Int × Int × Int × Int)) : Int := v_first (s_gravity_unless (s_gravity_within p0.1 1 8) 2 :: s_gravity_unless (decide ((p0.2.length : Int) ≤ 12)) 8 :: [])
theorem l_gravity_CheckNet_0 (p0 : Int × List (Int × Int × Int × Int)) (hl : lenOk p0.2) : OkL (st_gravity_CheckNet_0 p0) (sp_gravity_CheckNet_0 p0) 0 ∧ lpv ((0 : Int), (0 : Int)) (st_gravity_CheckNet_0 p0) 0 = v_scan (fun i t => cond (v_tierr p0.1 t != 0) (some (i, v_tierr p0.1 t)) none) ((0 : Int), (0 : Int)) 0 p0.2 := by
  refine scan_is p0.2 (0, 0, 0, 0) (fun i t => cond (v_tierr p0.1 t != 0) (some (i, v_tierr p0.1 t)) none) ((0 : Int), (0 : Int)) hl ?_ ?_
  · refine ⟨by simp only [sp_gravity_CheckNet_0, List.forall_mem_cons, decide_eq_true_eq]; simp, by simp [st_gravity_CheckNet_0]⟩
  · intro j hj
    have hj' : (j : Int) < p0.2.length := by omega
    refine ⟨by simp only [sp_gravity_CheckNet_0, List.forall_mem_cons, decide_eq_true_eq, Int.toNat_natCast]; simp <;> omega, ?_⟩
    simp only [st_gravity_CheckNet_0, hj', decide_true, Int.toNat_natCast, cond_true, wrap_nat (show (j : Int) ≤ 9223372036854775806 by unfold lenOk at hl; omega)]
    generalize p0.2.getD j (0, 0, 0, 0) = x
    show cond (v_tierr p0.1 x != 0) _ _ = _
    cases (v_tierr p0.1 x != 0) <;> rfl
def v_net (p0 : Int × List (Int × Int × Int × Int)) : Int × Int := cond (v_neterr p0 != 0) (0, v_neterr p0) (v_scan (fun i t => cond (v_tierr p0.1 t != 0) (some (i, v_tierr p0.1 t)) none) ((0 : Int), (0 : Int)) 0 p0.2)
theorem tx_neterr {p0 : Int × List (Int × Int × Int × Int)} (h : v_neterr p0 = 0) : (1 ≤ p0.1 ∧ p0.1 ≤ 8) ∧ p0.2.length ≤ 12 := by
  obtain ⟨h1, h⟩ := v_first0 h
  obtain ⟨h2, _⟩ := v_first0 h
  have := of_decide_eq_true (tx_unless0' (by decide) h2)
  exact ⟨tx_within.1 (tx_unless0' (by decide) h1), by omega⟩
theorem tx_tierr {n : Int} {t : Int × Int × Int × Int} (hn : 1 ≤ n ∧ n ≤ 8) (h : v_tierr n t = 0) : (0 ≤ t.1 ∧ t.1 < n) ∧ (0 ≤ t.2.1 ∧ t.2.1 < n) ∧ t.1 ≠ t.2.1 ∧ (-1000000 ≤ t.2.2.1 ∧ t.2.2.1 ≤ 1000000) ∧ (-1000000 ≤ t.2.2.2 ∧ t.2.2.2 ≤ 1000000) ∧ t.2.2.1 ≤ t.2.2.2 := by
  obtain ⟨h1, h⟩ := v_first0 h
  obtain ⟨h2, h⟩ := v_first0 h
  obtain ⟨h3, _⟩ := v_first0 h
  rw [wrap_id (by omega) (by omega)] at h1
  obtain ⟨a1, a2⟩ := tx_andU (tx_unless0' (by decide) h1)
  have a3 := tx_unless0' (by decide) h2
  have a4 := tx_range3 h3
  have a1 := tx_within.1 a1
  have a2 := tx_within.1 a2
  exact ⟨by omega, by omega, by simpa using a3, a4⟩
theorem tx_net {p0 : Int × List (Int × Int × Int × Int)} (h : (v_net p0).2 = 0) : v_nokI p0.1 p0.2 := by
  unfold v_net at h
  cases hl : (v_neterr p0 != 0)
  · rw [hl] at h
    obtain ⟨h1, h2⟩ := tx_neterr (bne0' hl)
    refine ⟨⟨by omega, by omega, h2, fun t ht => ?_⟩, by omega⟩
    have := v_scan_end (P := fun (r : Int × Int) => r.2 = 0) p0.2 0 h (fun j x v _ hv => by
      cases hb : (v_tierr p0.1 x != 0) <;> rw [hb] at hv <;> simp only [cond_true, cond_false, Option.some.injEq, reduceCtorEq] at hv
      subst hv; simpa using hb)
    obtain ⟨k, hk, rfl⟩ := List.mem_iff_getElem.1 ht
    have := this k hk
    cases hb : (v_tierr p0.1 p0.2[k] != 0)
    · have := tx_tierr h1 (bne0' hb)
      rw [Int.toNat_of_nonneg (by omega)]
      exact this
    · rw [hb] at this; cases this
  · rw [hl] at h; simp only [cond_true] at h; rw [h] at hl; cases hl
abbrev t_gravity_CheckNet (p0 : Int × List (Int × Int × Int × Int)) : Int × Int := v_net p0
abbrev qre_gravity_CheckNet (_ : Int × List (Int × Int × Int × Int)) : List Prop := []
theorem pp_gravity_CheckNet (p0 : Int × List (Int × Int × Int × Int)) (_ : ∀ p ∈ qre_gravity_CheckNet p0, p) : ∀ p ∈ pre_gravity_CheckNet p0, p := by
  simp only [pre_gravity_CheckNet, List.forall_mem_cons]
  exact ⟨fun h => (l_gravity_CheckNet_0 p0 (lenOk_le (tx_neterr (bne0' h)).2 (by decide))).1, by simp⟩
theorem tt_gravity_CheckNet (p0 : Int × List (Int × Int × Int × Int)) (_ : ∀ p ∈ qre_gravity_CheckNet p0, p) : s_gravity_CheckNet p0 = t_gravity_CheckNet p0 := by
  show cond (v_neterr p0 != 0) (0, v_neterr p0) (lpv (0, 0) (st_gravity_CheckNet_0 p0) 0) = v_net p0
  unfold v_net
  cases hl : (v_neterr p0 != 0)
  · exact (l_gravity_CheckNet_0 p0 (lenOk_le (tx_neterr (bne0' hl)).2 (by decide))).2
  · rfl

abbrev con_gravity_CheckNet : Con := ⟨P_gravity_CheckNet, R_gravity_CheckNet, fun x => qre_gravity_CheckNet x, fun x => t_gravity_CheckNet x⟩
theorem ok_gravity_CheckNet : ConOk Tryd.prog 41 con_gravity_CheckNet := ⟨k_gravity_CheckNet, fun x hx => ret_tf (ps := P_gravity_CheckNet) (rs := R_gravity_CheckNet) (x := x) (y := t_gravity_CheckNet x) e_gravity_CheckNet hC_gravity_CheckNet (tf_of (w_gravity_CheckNet_eq x (fun z => z = t_gravity_CheckNet x)) (d_gravity_CheckNet x (fun z => z = t_gravity_CheckNet x) (pp_gravity_CheckNet x hx) (tt_gravity_CheckNet x hx)))⟩
/- gravity_ValuesOf -/
def C_gravity_ValuesOf : Cons := [(41, [], con_gravity_CheckNet), (106, [], con_gravity_greatest)]
theorem hC_gravity_ValuesOf : ConsOk Tryd.prog C_gravity_ValuesOf := ConsOk.cons ok_gravity_CheckNet <| ConsOk.cons ok_gravity_greatest <| ConsOk.nil
def w_gravity_ValuesOf (p0 : (Int × (List (Int × (Int × (Int × Int)))))) (K : ((List Int) × Int) → Prop) : Prop :=
 (((((v_net p0).2 != (0 : Int)) = true) →
  (K (([] : List Int), (v_net p0).2))) ∧
  ((((v_net p0).2 != (0 : Int)) = false) →
  ((v_nokI p0.1 p0.2) ∧
    ((((!(v_grt p0.1 p0.2).2) = true) →
    (K (([] : List Int), (13 : Int)))) ∧
    (((!(v_grt p0.1 p0.2).2) = false) →
    (K ((v_grt p0.1 p0.2).1, (0 : Int))))))))
set_option maxHeartbeats 4000000 in
theorem w_gravity_ValuesOf_eq (p0 : (Int × (List (Int × (Int × (Int × Int)))))) (K : ((List Int) × Int) → Prop) : tfn F_gravity_ValuesOf A_gravity_ValuesOf C_gravity_ValuesOf P_gravity_ValuesOf R_gravity_ValuesOf p0 K = w_gravity_ValuesOf p0 K := by kernel_rfl
def s_gravity_ValuesOf (p0 : (Int × (List (Int × (Int × (Int × Int)))))) : ((List Int) × Int) :=
  (cond ((v_net p0).2 != (0 : Int)) (([] : List Int), (v_net p0).2)
    (cond (!(v_grt p0.1 p0.2).2) (([] : List Int), (13 : Int))
    ((v_grt p0.1 p0.2).1, (0 : Int))))
abbrev pre_gravity_ValuesOf (p0 : (Int × (List (Int × (Int × (Int × Int)))))) : List Prop := [((((v_net p0).2 != (0 : Int)) = false) → (v_nokI p0.1 p0.2))]
set_option maxHeartbeats 4000000 in
theorem d_gravity_ValuesOf (p0 : (Int × (List (Int × (Int × (Int × Int)))))) (K : ((List Int) × Int) → Prop) (hp : ∀ p ∈ pre_gravity_ValuesOf p0, p) (h : K (s_gravity_ValuesOf p0)) : w_gravity_ValuesOf p0 K := by
  unfold w_gravity_ValuesOf
  unfold s_gravity_ValuesOf at h
  obtain ⟨hp0, _⟩ := conj_of hp
  exact (br' h (fun e0 h => h)
    (fun e0 h => ⟨(hp0 e0), (br' h (fun e1 h => h)
    (fun e1 h => h))⟩))
/-- The values of a net, or the error. -/
def v_vals (p0 : Int × List (Int × Int × Int × Int)) : List Int × Int := cond ((v_net p0).2 != 0) ([], (v_net p0).2) (cond (!(v_grt p0.1 p0.2).2) ([], 13) ((v_grt p0.1 p0.2).1, 0))
abbrev t_gravity_ValuesOf (p0 : Int × List (Int × Int × Int × Int)) : List Int × Int := v_vals p0
abbrev qre_gravity_ValuesOf (_ : Int × List (Int × Int × Int × Int)) : List Prop := []
theorem pp_gravity_ValuesOf (p0 : Int × List (Int × Int × Int × Int)) (_ : ∀ p ∈ qre_gravity_ValuesOf p0, p) : ∀ p ∈ pre_gravity_ValuesOf p0, p := by
  simp only [pre_gravity_ValuesOf, List.forall_mem_cons]
  exact ⟨fun h => tx_net (bne0' h), by simp⟩
theorem tt_gravity_ValuesOf (p0 : Int × List (Int × Int × Int × Int)) (_ : ∀ p ∈ qre_gravity_ValuesOf p0, p) : s_gravity_ValuesOf p0 = t_gravity_ValuesOf p0 := rfl

abbrev con_gravity_ValuesOf : Con := ⟨P_gravity_ValuesOf, R_gravity_ValuesOf, fun x => qre_gravity_ValuesOf x, fun x => t_gravity_ValuesOf x⟩
theorem ok_gravity_ValuesOf : ConOk Tryd.prog 43 con_gravity_ValuesOf := ⟨k_gravity_ValuesOf, fun x hx => ret_tf (ps := P_gravity_ValuesOf) (rs := R_gravity_ValuesOf) (x := x) (y := t_gravity_ValuesOf x) e_gravity_ValuesOf hC_gravity_ValuesOf (tf_of (w_gravity_ValuesOf_eq x (fun z => z = t_gravity_ValuesOf x)) (d_gravity_ValuesOf x (fun z => z = t_gravity_ValuesOf x) (pp_gravity_ValuesOf x hx) (tt_gravity_ValuesOf x hx)))⟩
/- base_CopyInts -/
def C_base_CopyInts : Cons := []
theorem hC_base_CopyInts : ConsOk Tryd.prog C_base_CopyInts := ConsOk.nil
def w_base_CopyInts (p0 : (List Int)) (K : (List Int) → Prop) : Prop :=
 (((((List.length ([] : List Int)) + (List.length p0)) * 8) ≤ 140737488355328) ∧
  (K (([] : List Int) ++ p0)))
set_option maxHeartbeats 4000000 in
theorem w_base_CopyInts_eq (p0 : (List Int)) (K : (List Int) → Prop) : tfnO F_base_CopyInts A_base_CopyInts C_base_CopyInts P_base_CopyInts E_base_CopyInts p0 K = w_base_CopyInts p0 K := by kernel_rfl
def s_base_CopyInts (p0 : (List Int)) : (List Int) :=
  (([] : List Int) ++ p0)
abbrev pre_base_CopyInts (p0 : (List Int)) : List Prop := [((((List.length ([] : List Int)) + (List.length p0)) * 8) ≤ 140737488355328)]
set_option maxHeartbeats 4000000 in
theorem d_base_CopyInts (p0 : (List Int)) (K : (List Int) → Prop) (hp : ∀ p ∈ pre_base_CopyInts p0, p) (h : K (s_base_CopyInts p0)) : w_base_CopyInts p0 K := by
  unfold w_base_CopyInts
  unfold s_base_CopyInts at h
  obtain ⟨hp0, _⟩ := conj_of hp
  exact ⟨(hp0), h⟩
abbrev t_base_CopyInts (p0 : List Int) : List Int := p0
abbrev qre_base_CopyInts (p0 : List Int) : List Prop := [p0.length ≤ 1000000]
theorem pp_base_CopyInts (p0 : List Int) (hq : ∀ p ∈ qre_base_CopyInts p0, p) : ∀ p ∈ pre_base_CopyInts p0, p := by
  simp only [pre_base_CopyInts, List.forall_mem_cons]
  have := (conj_of hq).1
  exact ⟨by simp; omega, by simp⟩
theorem tt_base_CopyInts (p0 : List Int) (hq : ∀ p ∈ qre_base_CopyInts p0, p) : s_base_CopyInts p0 = t_base_CopyInts p0 := by
  rfl

abbrev con_base_CopyInts : Con := ⟨P_base_CopyInts, [.one (.sl E_base_CopyInts)], fun x => qre_base_CopyInts x, fun x => t_base_CopyInts x⟩
theorem ok_base_CopyInts : ConOOk Tryd.prog 31 con_base_CopyInts := conO_tf (e := E_base_CopyInts) (ps := P_base_CopyInts) k_base_CopyInts e_base_CopyInts hC_base_CopyInts (fun x hx => tfo_of (w_base_CopyInts_eq x (fun z => z = t_base_CopyInts x)) (d_base_CopyInts x (fun z => z = t_base_CopyInts x) (pp_base_CopyInts x hx) (tt_base_CopyInts x hx)))
/- gravity_CheckValues_1 -/
def C_gravity_CheckValues_1 : Cons := [(93, [], con_gravity_isSized)]
theorem hC_gravity_CheckValues_1 : ConsOk Tryd.prog C_gravity_CheckValues_1 := ConsOk.cons ok_gravity_isSized <| ConsOk.nil
def w_gravity_CheckValues_1 (p0 : Int) (K : Bool → Prop) : Prop :=
 (K (!(s_gravity_isSized p0 (10000000 : Int))))
set_option maxHeartbeats 4000000 in
theorem w_gravity_CheckValues_1_eq (p0 : Int) (K : Bool → Prop) : tfn F_gravity_CheckValues_1 A_gravity_CheckValues_1 C_gravity_CheckValues_1 P_gravity_CheckValues_1 R_gravity_CheckValues_1 p0 K = w_gravity_CheckValues_1 p0 K := by kernel_rfl
def s_gravity_CheckValues_1 (p0 : Int) : Bool :=
  (!(s_gravity_isSized p0 (10000000 : Int)))
abbrev pre_gravity_CheckValues_1 (p0 : Int) : List Prop := []
set_option maxHeartbeats 4000000 in
theorem d_gravity_CheckValues_1 (p0 : Int) (K : Bool → Prop) (hp : ∀ p ∈ pre_gravity_CheckValues_1 p0, p) (h : K (s_gravity_CheckValues_1 p0)) : w_gravity_CheckValues_1 p0 K := by
  unfold w_gravity_CheckValues_1
  unfold s_gravity_CheckValues_1 at h
  exact h
abbrev con_gravity_CheckValues_1 : Con := ⟨P_gravity_CheckValues_1, R_gravity_CheckValues_1, fun x => pre_gravity_CheckValues_1 x, fun x => s_gravity_CheckValues_1 x⟩
theorem ok_gravity_CheckValues_1 : ConOk Tryd.prog 108 con_gravity_CheckValues_1 := ⟨k_gravity_CheckValues_1, fun x hx => ret_tf (ps := P_gravity_CheckValues_1) (rs := R_gravity_CheckValues_1) (x := x) (y := s_gravity_CheckValues_1 x) e_gravity_CheckValues_1 hC_gravity_CheckValues_1 (tf_of (w_gravity_CheckValues_1_eq x (fun z => z = s_gravity_CheckValues_1 x)) (d_gravity_CheckValues_1 x (fun z => z = s_gravity_CheckValues_1 x) hx rfl))⟩
/- slices_IndexFuncint_int__gravity_CheckValues_1 -/
def C_slices_IndexFuncint_int__gravity_CheckValues_1 : Cons := [(108, [], con_gravity_CheckValues_1)]
theorem hC_slices_IndexFuncint_int__gravity_CheckValues_1 : ConsOk Tryd.prog C_slices_IndexFuncint_int__gravity_CheckValues_1 := ConsOk.cons ok_gravity_CheckValues_1 <| ConsOk.nil
def w_slices_IndexFuncint_int__gravity_CheckValues_1 (p0 : (List Int)) (p1 : PUnit) (K : Int → Prop) : Prop :=
 (∃ n0, (loopP (fun (y1 : Int) k2 =>
    ((((decide (y1 < (((List.length p0) : Nat) : Int))) = true) →
    (((0 : Int) ≤ y1) ∧
      ((y1 < (((List.length p0) : Nat) : Int)) ∧
      ((((s_gravity_CheckValues_1 (List.getD p0 (Int.toNat y1) (0 : Int))) = true) →
      (K y1)) ∧
      (((s_gravity_CheckValues_1 (List.getD p0 (Int.toNat y1) (0 : Int))) = false) →
      (k2 (IntKind.i64.wrap (y1 + (1 : Int))))))))) ∧
    (((decide (y1 < (((List.length p0) : Nat) : Int))) = false) →
    (K (-1 : Int))))) n0 (0 : Int)))
set_option maxHeartbeats 4000000 in
theorem w_slices_IndexFuncint_int__gravity_CheckValues_1_eq (p0 : (List Int)) (p1 : PUnit) (K : Int → Prop) : tfn F_slices_IndexFuncint_int__gravity_CheckValues_1 A_slices_IndexFuncint_int__gravity_CheckValues_1 C_slices_IndexFuncint_int__gravity_CheckValues_1 P_slices_IndexFuncint_int__gravity_CheckValues_1 R_slices_IndexFuncint_int__gravity_CheckValues_1 (p0, p1) K = w_slices_IndexFuncint_int__gravity_CheckValues_1 p0 p1 K := by kernel_rfl
def st_slices_IndexFuncint_int__gravity_CheckValues_1_0 (p0 : (List Int)) (p1 : PUnit) (y0 : Int) : Int ⊕ Int :=
  (cond (decide (y0 < (((List.length p0) : Nat) : Int))) (cond (s_gravity_CheckValues_1 (List.getD p0 (Int.toNat y0) (0 : Int))) (Sum.inr y0)
    (Sum.inl (IntKind.i64.wrap (y0 + (1 : Int)))))
    (Sum.inr (-1 : Int)))
abbrev sp_slices_IndexFuncint_int__gravity_CheckValues_1_0 (p0 : (List Int)) (p1 : PUnit) (y0 : Int) : List Prop := [(((decide (y0 < (((List.length p0) : Nat) : Int))) = true) → ((0 : Int) ≤ y0)),
    (((decide (y0 < (((List.length p0) : Nat) : Int))) = true) → (y0 < (((List.length p0) : Nat) : Int)))]
def s_slices_IndexFuncint_int__gravity_CheckValues_1 (p0 : (List Int)) (p1 : PUnit) : Int :=
  (lpv (0 : Int) (st_slices_IndexFuncint_int__gravity_CheckValues_1_0 p0 p1) (0 : Int))
abbrev pre_slices_IndexFuncint_int__gravity_CheckValues_1 (p0 : (List Int)) (p1 : PUnit) : List Prop := [(OkL (st_slices_IndexFuncint_int__gravity_CheckValues_1_0 p0 p1) (sp_slices_IndexFuncint_int__gravity_CheckValues_1_0 p0 p1) (0 : Int))]
set_option maxHeartbeats 4000000 in
theorem d_slices_IndexFuncint_int__gravity_CheckValues_1 (p0 : (List Int)) (p1 : PUnit) (K : Int → Prop) (hp : ∀ p ∈ pre_slices_IndexFuncint_int__gravity_CheckValues_1 p0 p1, p) (h : K (s_slices_IndexFuncint_int__gravity_CheckValues_1 p0 p1)) : w_slices_IndexFuncint_int__gravity_CheckValues_1 p0 p1 K := by
  unfold w_slices_IndexFuncint_int__gravity_CheckValues_1
  unfold s_slices_IndexFuncint_int__gravity_CheckValues_1 at h
  obtain ⟨hp0, _⟩ := conj_of hp
  exact (loop_gen (hp0) h (fun y0 k0 hp h => by
  unfold st_slices_IndexFuncint_int__gravity_CheckValues_1_0 at h; obtain ⟨hp0, hp1, _⟩ := conj_of hp
  exact (br' h (fun e1 h => ⟨(hp0 e1), (hp1 e1), (br' h (fun e2 h => h)
    (fun e2 h => h))⟩)
    (fun e1 h => h))))
theorem l_slices_IndexFuncint_int__gravity_CheckValues_1_0 (p0 : List Int) (p1 : PUnit) (hl : lenOk p0) : OkL (st_slices_IndexFuncint_int__gravity_CheckValues_1_0 p0 p1) (sp_slices_IndexFuncint_int__gravity_CheckValues_1_0 p0 p1) 0 ∧ lpv (0 : Int) (st_slices_IndexFuncint_int__gravity_CheckValues_1_0 p0 p1) 0 = v_scan (fun i x => cond (s_gravity_CheckValues_1 x) (some i) none) (-1 : Int) 0 p0 := by
  refine scan_is p0 0 (fun i x => cond (s_gravity_CheckValues_1 x) (some i) none) (-1 : Int) hl ?_ ?_
  · refine ⟨by simp only [sp_slices_IndexFuncint_int__gravity_CheckValues_1_0, List.forall_mem_cons, decide_eq_true_eq]; simp, by simp [st_slices_IndexFuncint_int__gravity_CheckValues_1_0]⟩
  · intro j hj
    have hj' : (j : Int) < p0.length := by omega
    refine ⟨by simp only [sp_slices_IndexFuncint_int__gravity_CheckValues_1_0, List.forall_mem_cons, decide_eq_true_eq, Int.toNat_natCast]; simp <;> omega, ?_⟩
    simp only [st_slices_IndexFuncint_int__gravity_CheckValues_1_0, hj', decide_true, Int.toNat_natCast, cond_true, wrap_nat (show (j : Int) ≤ 9223372036854775806 by unfold lenOk at hl; omega)]
    generalize p0.getD j 0 = x
    cases s_gravity_CheckValues_1 x <;> rfl
def v_idx_slices_IndexFuncint_int__gravity_CheckValues_1 (p0 : List Int) : Int := v_scan (fun i x => cond (s_gravity_CheckValues_1 x) (some i) none) (-1) 0 p0
abbrev t_slices_IndexFuncint_int__gravity_CheckValues_1 (p0 : List Int) (p1 : PUnit) : Int := v_idx_slices_IndexFuncint_int__gravity_CheckValues_1 p0
abbrev qre_slices_IndexFuncint_int__gravity_CheckValues_1 (p0 : List Int) (p1 : PUnit) : List Prop := [lenOk p0]
theorem pp_slices_IndexFuncint_int__gravity_CheckValues_1 (p0 : List Int) (p1 : PUnit) (hq : ∀ p ∈ qre_slices_IndexFuncint_int__gravity_CheckValues_1 p0 p1, p) : ∀ p ∈ pre_slices_IndexFuncint_int__gravity_CheckValues_1 p0 p1, p := by
  simp only [pre_slices_IndexFuncint_int__gravity_CheckValues_1, List.forall_mem_cons]
  exact ⟨(l_slices_IndexFuncint_int__gravity_CheckValues_1_0 p0 p1 (conj_of hq).1).1, by simp⟩
theorem tt_slices_IndexFuncint_int__gravity_CheckValues_1 (p0 : List Int) (p1 : PUnit) (hq : ∀ p ∈ qre_slices_IndexFuncint_int__gravity_CheckValues_1 p0 p1, p) : s_slices_IndexFuncint_int__gravity_CheckValues_1 p0 p1 = t_slices_IndexFuncint_int__gravity_CheckValues_1 p0 p1 := by
  exact (l_slices_IndexFuncint_int__gravity_CheckValues_1_0 p0 p1 (conj_of hq).1).2

abbrev con_slices_IndexFuncint_int__gravity_CheckValues_1 : Con := ⟨P_slices_IndexFuncint_int__gravity_CheckValues_1, R_slices_IndexFuncint_int__gravity_CheckValues_1, fun x => qre_slices_IndexFuncint_int__gravity_CheckValues_1 x.1 x.2, fun x => t_slices_IndexFuncint_int__gravity_CheckValues_1 x.1 x.2⟩
theorem ok_slices_IndexFuncint_int__gravity_CheckValues_1 : ConOk Tryd.prog 107 con_slices_IndexFuncint_int__gravity_CheckValues_1 := ⟨k_slices_IndexFuncint_int__gravity_CheckValues_1, fun x hx => ret_tf (ps := P_slices_IndexFuncint_int__gravity_CheckValues_1) (rs := R_slices_IndexFuncint_int__gravity_CheckValues_1) (x := x) (y := t_slices_IndexFuncint_int__gravity_CheckValues_1 x.1 x.2) e_slices_IndexFuncint_int__gravity_CheckValues_1 hC_slices_IndexFuncint_int__gravity_CheckValues_1 (tf_of (w_slices_IndexFuncint_int__gravity_CheckValues_1_eq x.1 x.2 (fun z => z = t_slices_IndexFuncint_int__gravity_CheckValues_1 x.1 x.2)) (d_slices_IndexFuncint_int__gravity_CheckValues_1 x.1 x.2 (fun z => z = t_slices_IndexFuncint_int__gravity_CheckValues_1 x.1 x.2) (pp_slices_IndexFuncint_int__gravity_CheckValues_1 x.1 x.2 hx) (tt_slices_IndexFuncint_int__gravity_CheckValues_1 x.1 x.2 hx)))⟩
/- gravity_CheckValues -/
def C_gravity_CheckValues : Cons := [(41, [], con_gravity_CheckNet), (89, [], con_gravity_unless), (88, [], con_gravity_first), (107, [108], con_slices_IndexFuncint_int__gravity_CheckValues_1), (94, [], con_gravity_within)]
theorem hC_gravity_CheckValues : ConsOk Tryd.prog C_gravity_CheckValues := ConsOk.cons ok_gravity_CheckNet <| ConsOk.cons ok_gravity_unless <| ConsOk.cons ok_gravity_first <| ConsOk.cons ok_slices_IndexFuncint_int__gravity_CheckValues_1 <| ConsOk.cons ok_gravity_within <| ConsOk.nil
abbrev q0_gravity_CheckValues (p0 : (Int × (List (Int × (Int × (Int × Int)))))) (y1 : Int) := (List.getD p0.2 (Int.toNat y1) (zz0, (zz0, (zz0, zz0))))
abbrev q1_gravity_CheckValues (p0 : (Int × (List (Int × (Int × (Int × Int)))))) (p1 : (List Int)) := ((v_net p0).2 :: ((s_gravity_unless ((((List.length p1) : Nat) : Int) == p0.1) (10 : Int)) :: ([] : List Int)))
def w_gravity_CheckValues (p0 : (Int × (List (Int × (Int × (Int × Int)))))) (p1 : (List Int)) (K : (Int × Int) → Prop) : Prop :=
 ((lenOk (q1_gravity_CheckValues p0 p1)) ∧
  (((((v_first (q1_gravity_CheckValues p0 p1)) != zz0) = true) →
  (K (zz0, (v_first (q1_gravity_CheckValues p0 p1))))) ∧
  ((((v_first (q1_gravity_CheckValues p0 p1)) != zz0) = false) →
  ((lenOk p1) ∧
    ((((decide ((v_idx_slices_IndexFuncint_int__gravity_CheckValues_1 p1) ≥ zz0)) = true) →
    (K ((v_idx_slices_IndexFuncint_int__gravity_CheckValues_1 p1), zz2))) ∧
    (((decide ((v_idx_slices_IndexFuncint_int__gravity_CheckValues_1 p1) ≥ zz0)) = false) →
    (∃ n0, (loopP (fun (y1 : Int) k2 =>
        ((((decide (y1 < (((List.length p0.2) : Nat) : Int))) = true) →
        ((zz0 ≤ y1) ∧
          ((y1 < (((List.length p0.2) : Nat) : Int)) ∧
          ((zz0 ≤ (q0_gravity_CheckValues p0 y1).2.1) ∧
          (((q0_gravity_CheckValues p0 y1).2.1 < (((List.length p1) : Nat) : Int)) ∧
          ((zz0 ≤ (q0_gravity_CheckValues p0 y1).1) ∧
          (((q0_gravity_CheckValues p0 y1).1 < (((List.length p1) : Nat) : Int)) ∧
          ((((!(s_gravity_within (wi ((List.getD p1 (Int.toNat (q0_gravity_CheckValues p0 y1).2.1) zz0) - (List.getD p1 (Int.toNat (q0_gravity_CheckValues p0 y1).1) zz0))) (q0_gravity_CheckValues p0 y1).2.2.1 (q0_gravity_CheckValues p0 y1).2.2.2)) = true) →
          (K (y1, (19 : Int)))) ∧
          (((!(s_gravity_within (wi ((List.getD p1 (Int.toNat (q0_gravity_CheckValues p0 y1).2.1) zz0) - (List.getD p1 (Int.toNat (q0_gravity_CheckValues p0 y1).1) zz0))) (q0_gravity_CheckValues p0 y1).2.2.1 (q0_gravity_CheckValues p0 y1).2.2.2)) = false) →
          (k2 (wi (y1 + zz1)))))))))))) ∧
        (((decide (y1 < (((List.length p0.2) : Nat) : Int))) = false) →
        (K (zz0, zz0))))) n0 zz0))))))))
set_option maxHeartbeats 4000000 in
theorem w_gravity_CheckValues_eq (p0 : (Int × (List (Int × (Int × (Int × Int)))))) (p1 : (List Int)) (K : (Int × Int) → Prop) : tfn F_gravity_CheckValues A_gravity_CheckValues C_gravity_CheckValues P_gravity_CheckValues R_gravity_CheckValues (p0, p1) K = w_gravity_CheckValues p0 p1 K := by kernel_rfl
def st_gravity_CheckValues_0 (p0 : (Int × (List (Int × (Int × (Int × Int)))))) (p1 : (List Int)) (y2 : Int) : Int ⊕ (Int × Int) :=
  (cond (decide (y2 < (((List.length p0.2) : Nat) : Int))) (cond (!(s_gravity_within (IntKind.i64.wrap ((List.getD p1 (Int.toNat (List.getD p0.2 (Int.toNat y2) ((0 : Int), ((0 : Int), ((0 : Int), (0 : Int))))).2.1) (0 : Int)) - (List.getD p1 (Int.toNat (List.getD p0.2 (Int.toNat y2) ((0 : Int), ((0 : Int), ((0 : Int), (0 : Int))))).1) (0 : Int)))) (List.getD p0.2 (Int.toNat y2) ((0 : Int), ((0 : Int), ((0 : Int), (0 : Int))))).2.2.1 (List.getD p0.2 (Int.toNat y2) ((0 : Int), ((0 : Int), ((0 : Int), (0 : Int))))).2.2.2)) (Sum.inr (y2, (19 : Int)))
    (Sum.inl (IntKind.i64.wrap (y2 + (1 : Int)))))
    (Sum.inr ((0 : Int), (0 : Int))))
abbrev sp_gravity_CheckValues_0 (p0 : (Int × (List (Int × (Int × (Int × Int)))))) (p1 : (List Int)) (y2 : Int) : List Prop := [(((decide (y2 < (((List.length p0.2) : Nat) : Int))) = true) → ((0 : Int) ≤ y2)),
    (((decide (y2 < (((List.length p0.2) : Nat) : Int))) = true) → (y2 < (((List.length p0.2) : Nat) : Int))),
    (((decide (y2 < (((List.length p0.2) : Nat) : Int))) = true) → ((0 : Int) ≤ (List.getD p0.2 (Int.toNat y2) ((0 : Int), ((0 : Int), ((0 : Int), (0 : Int))))).2.1)),
    (((decide (y2 < (((List.length p0.2) : Nat) : Int))) = true) → ((List.getD p0.2 (Int.toNat y2) ((0 : Int), ((0 : Int), ((0 : Int), (0 : Int))))).2.1 < (((List.length p1) : Nat) : Int))),
    (((decide (y2 < (((List.length p0.2) : Nat) : Int))) = true) → ((0 : Int) ≤ (List.getD p0.2 (Int.toNat y2) ((0 : Int), ((0 : Int), ((0 : Int), (0 : Int))))).1)),
    (((decide (y2 < (((List.length p0.2) : Nat) : Int))) = true) → ((List.getD p0.2 (Int.toNat y2) ((0 : Int), ((0 : Int), ((0 : Int), (0 : Int))))).1 < (((List.length p1) : Nat) : Int)))]
def s_gravity_CheckValues (p0 : (Int × (List (Int × (Int × (Int × Int)))))) (p1 : (List Int)) : (Int × Int) :=
  (cond ((v_first ((v_net p0).2 :: ((s_gravity_unless ((((List.length p1) : Nat) : Int) == p0.1) (10 : Int)) :: ([] : List Int)))) != (0 : Int)) ((0 : Int), (v_first ((v_net p0).2 :: ((s_gravity_unless ((((List.length p1) : Nat) : Int) == p0.1) (10 : Int)) :: ([] : List Int)))))
    (cond (decide ((v_idx_slices_IndexFuncint_int__gravity_CheckValues_1 p1) ≥ (0 : Int))) ((v_idx_slices_IndexFuncint_int__gravity_CheckValues_1 p1), (2 : Int))
    (lpv ((0 : Int), (0 : Int)) (st_gravity_CheckValues_0 p0 p1) (0 : Int))))
abbrev pre_gravity_CheckValues (p0 : (Int × (List (Int × (Int × (Int × Int)))))) (p1 : (List Int)) : List Prop := [((((v_first ((v_net p0).2 :: ((s_gravity_unless ((((List.length p1) : Nat) : Int) == p0.1) (10 : Int)) :: ([] : List Int)))) != (0 : Int)) = false) → (lenOk p1)),
    ((((v_first ((v_net p0).2 :: ((s_gravity_unless ((((List.length p1) : Nat) : Int) == p0.1) (10 : Int)) :: ([] : List Int)))) != (0 : Int)) = false) → (((decide ((v_idx_slices_IndexFuncint_int__gravity_CheckValues_1 p1) ≥ (0 : Int))) = false) → (OkL (st_gravity_CheckValues_0 p0 p1) (sp_gravity_CheckValues_0 p0 p1) (0 : Int))))]
set_option maxHeartbeats 4000000 in
theorem d_gravity_CheckValues (p0 : (Int × (List (Int × (Int × (Int × Int)))))) (p1 : (List Int)) (K : (Int × Int) → Prop) (hp : ∀ p ∈ pre_gravity_CheckValues p0 p1, p) (h : K (s_gravity_CheckValues p0 p1)) : w_gravity_CheckValues p0 p1 K := by
  unfold w_gravity_CheckValues
  unfold s_gravity_CheckValues at h
  obtain ⟨hp0, hp1, _⟩ := conj_of hp
  exact ⟨(lenOk_of 2 rfl (by decide)), (br' h (fun e0 h => h)
    (fun e0 h => ⟨(hp0 e0), (br' h (fun e1 h => h)
    (fun e1 h => (loop_gen (hp1 e0 e1) h (fun y2 k2 hp h => by
  unfold st_gravity_CheckValues_0 at h; obtain ⟨hp0, hp1, hp2, hp3, hp4, hp5, _⟩ := conj_of hp
  exact (br' h (fun e3 h => ⟨(hp0 e3), (hp1 e3), (hp2 e3), (hp3 e3), (hp4 e3), (hp5 e3), (br' h (fun e4 h => h)
    (fun e4 h => h))⟩)
    (fun e3 h => h))))))⟩))⟩
theorem l_gravity_CheckValues_0 (p0 : Int × List (Int × Int × Int × Int)) (p1 : List Int) (h : v_nokI p0.1 p0.2) (hl : (p1.length : Int) = p0.1) : OkL (st_gravity_CheckValues_0 p0 p1) (sp_gravity_CheckValues_0 p0 p1) 0 ∧ lpv ((0 : Int), (0 : Int)) (st_gravity_CheckValues_0 p0 p1) 0 = v_scan (fun i t => cond (!s_gravity_within (IntKind.i64.wrap (p1.getD t.2.1.toNat 0 - p1.getD t.1.toNat 0)) t.2.2.1 t.2.2.2) (some ((i, 19))) none) ((0, 0)) 0 p0.2 := by
  have h12 := h.1.len
  refine scan_is p0.2 (0, 0, 0, 0) _ _ (lenOk_le h12 (by decide)) ?_ ?_
  · have hd : decide ((p0.2.length : Int) < (p0.2.length : Nat)) = false := decide_eq_false (by omega)
    exact ⟨by simp only [sp_gravity_CheckValues_0, List.forall_mem_cons, hd]; simp, by simp [st_gravity_CheckValues_0]⟩
  · intro j hj
    have hd : decide ((j : Int) < (p0.2.length : Nat)) = true := decide_eq_true (by omega)
    have ht := h.1.all _ (getD_mem' (0, 0, 0, 0) hj)
    rw [Int.toNat_of_nonneg h.2] at ht
    simp only [sp_gravity_CheckValues_0, st_gravity_CheckValues_0, List.forall_mem_cons, hd, cond_true, Int.toNat_natCast, wrap_nat (show (j : Int) ≤ 9223372036854775806 by omega)]
    generalize p0.2.getD j (0, 0, 0, 0) = x at *
    refine ⟨?_, ?_⟩
    · and_intros
      all_goals first | (intros; omega) | (intro p hp; cases hp)
    · show cond (!s_gravity_within (IntKind.i64.wrap (p1.getD x.2.1.toNat 0 - p1.getD x.1.toNat 0)) x.2.2.1 x.2.2.2) _ _ = _
      cases s_gravity_within (IntKind.i64.wrap (p1.getD x.2.1.toNat 0 - p1.getD x.1.toNat 0)) x.2.2.1 x.2.2.2 <;> rfl
/-- The error of values, with an index. -/
def v_valerr (p0 : Int × List (Int × Int × Int × Int)) (p1 : List Int) : Int := v_first ((v_net p0).2 :: s_gravity_unless ((p1.length : Int) == p0.1) 10 :: [])
def v_agree (l : List (Int × Int × Int × Int)) (p1 : List Int) : Int × Int := v_scan (fun i t => cond (!s_gravity_within (IntKind.i64.wrap (p1.getD t.2.1.toNat 0 - p1.getD t.1.toNat 0)) t.2.2.1 t.2.2.2) (some (i, 19)) none) ((0 : Int), (0 : Int)) 0 l
def v_ckv (p0 : Int × List (Int × Int × Int × Int)) (p1 : List Int) : Int × Int := cond (v_valerr p0 p1 != 0) (0, v_valerr p0 p1) (cond (decide (v_idx_slices_IndexFuncint_int__gravity_CheckValues_1 p1 ≥ 0)) (v_idx_slices_IndexFuncint_int__gravity_CheckValues_1 p1, 2) (v_agree p0.2 p1))
theorem tx_valerr {p0 : Int × List (Int × Int × Int × Int)} {p1 : List Int} (h : v_valerr p0 p1 = 0) : v_nokI p0.1 p0.2 ∧ (p1.length : Int) = p0.1 := by
  obtain ⟨h1, h⟩ := v_first0 h
  obtain ⟨h2, _⟩ := v_first0 h
  exact ⟨tx_net h1, by simpa using tx_unless0' (by decide) h2⟩
abbrev t_gravity_CheckValues (p0 : Int × List (Int × Int × Int × Int)) (p1 : List Int) : Int × Int := v_ckv p0 p1
abbrev qre_gravity_CheckValues (_ : Int × List (Int × Int × Int × Int)) (_ : List Int) : List Prop := []
theorem pp_gravity_CheckValues (p0 : Int × List (Int × Int × Int × Int)) (p1 : List Int) (_ : ∀ p ∈ qre_gravity_CheckValues p0 p1, p) : ∀ p ∈ pre_gravity_CheckValues p0 p1, p := by
  simp only [pre_gravity_CheckValues, List.forall_mem_cons]
  have key : (v_valerr p0 p1 != 0) = false → v_nokI p0.1 p0.2 ∧ (p1.length : Int) = p0.1 := fun h => tx_valerr (bne0' h)
  exact ⟨fun h => lenOk_le (n := 8) (by obtain ⟨k1, k2⟩ := key h; have := k1.1.n8; omega) (by decide), fun h _ => (l_gravity_CheckValues_0 p0 p1 (key h).1 (key h).2).1, by simp⟩
theorem tt_gravity_CheckValues (p0 : Int × List (Int × Int × Int × Int)) (p1 : List Int) (_ : ∀ p ∈ qre_gravity_CheckValues p0 p1, p) : s_gravity_CheckValues p0 p1 = t_gravity_CheckValues p0 p1 := by
  show cond (v_valerr p0 p1 != 0) (0, v_valerr p0 p1) (cond (decide (v_idx_slices_IndexFuncint_int__gravity_CheckValues_1 p1 ≥ 0)) (v_idx_slices_IndexFuncint_int__gravity_CheckValues_1 p1, 2) (lpv (0, 0) (st_gravity_CheckValues_0 p0 p1) 0)) = v_ckv p0 p1
  unfold v_ckv
  cases h : (v_valerr p0 p1 != 0)
  · obtain ⟨k1, k2⟩ := tx_valerr (bne0' h)
    rw [(l_gravity_CheckValues_0 p0 p1 k1 k2).2]; rfl
  · rfl

abbrev con_gravity_CheckValues : Con := ⟨P_gravity_CheckValues, R_gravity_CheckValues, fun x => qre_gravity_CheckValues x.1 x.2, fun x => t_gravity_CheckValues x.1 x.2⟩
theorem ok_gravity_CheckValues : ConOk Tryd.prog 44 con_gravity_CheckValues := ⟨k_gravity_CheckValues, fun x hx => ret_tf (ps := P_gravity_CheckValues) (rs := R_gravity_CheckValues) (x := x) (y := t_gravity_CheckValues x.1 x.2) e_gravity_CheckValues hC_gravity_CheckValues (tf_of (w_gravity_CheckValues_eq x.1 x.2 (fun z => z = t_gravity_CheckValues x.1 x.2)) (d_gravity_CheckValues x.1 x.2 (fun z => z = t_gravity_CheckValues x.1 x.2) (pp_gravity_CheckValues x.1 x.2 hx) (tt_gravity_CheckValues x.1 x.2 hx)))⟩
/- base_Within -/
def C_base_Within : Cons := []
theorem hC_base_Within : ConsOk Tryd.prog C_base_Within := ConsOk.nil
def w_base_Within (p0 : Int) (p1 : Int) (p2 : Int) (K : Bool → Prop) : Prop :=
 ((((decide (p1 ≤ p0)) = true) →
  ((decide (p1 ≤ p0)) = (decide (p1 ≤ p0)))) ∧
  ((((decide (p1 ≤ p0)) = true) →
  ((decide (p1 ≤ p0)) = (decide (p1 ≤ p0)))) ∧
  (((decide (p1 ≤ p0)) = (decide (p1 ≤ p0))) ∧
  (K (cond (decide (p1 ≤ p0)) (decide (p0 ≤ p2)) false)))))
set_option maxHeartbeats 4000000 in
theorem w_base_Within_eq (p0 : Int) (p1 : Int) (p2 : Int) (K : Bool → Prop) : tfn F_base_Within A_base_Within C_base_Within P_base_Within R_base_Within (p0, p1, p2) K = w_base_Within p0 p1 p2 K := by kernel_rfl
def s_base_Within (p0 : Int) (p1 : Int) (p2 : Int) : Bool :=
  (cond (decide (p1 ≤ p0)) (decide (p0 ≤ p2)) false)
abbrev pre_base_Within (p0 : Int) (p1 : Int) (p2 : Int) : List Prop := []
set_option maxHeartbeats 4000000 in
theorem d_base_Within (p0 : Int) (p1 : Int) (p2 : Int) (K : Bool → Prop) (hp : ∀ p ∈ pre_base_Within p0 p1 p2, p) (h : K (s_base_Within p0 p1 p2)) : w_base_Within p0 p1 p2 K := by
  unfold w_base_Within
  unfold s_base_Within at h
  exact ⟨rf, rf, rfl, h⟩
abbrev con_base_Within : Con := ⟨P_base_Within, R_base_Within, fun x => pre_base_Within x.1 x.2.1 x.2.2, fun x => s_base_Within x.1 x.2.1 x.2.2⟩
theorem ok_base_Within : ConOk Tryd.prog 60 con_base_Within := ⟨k_base_Within, fun x hx => ret_tf (ps := P_base_Within) (rs := R_base_Within) (x := x) (y := s_base_Within x.1 x.2.1 x.2.2) e_base_Within hC_base_Within (tf_of (w_base_Within_eq x.1 x.2.1 x.2.2 (fun z => z = s_base_Within x.1 x.2.1 x.2.2)) (d_base_Within x.1 x.2.1 x.2.2 (fun z => z = s_base_Within x.1 x.2.1 x.2.2) hx rfl))⟩
/- ref05_StationErr -/
def C_ref05_StationErr : Cons := [(60, [], con_base_Within)]
theorem hC_ref05_StationErr : ConsOk Tryd.prog C_ref05_StationErr := ConsOk.cons ok_base_Within <| ConsOk.nil
def w_ref05_StationErr (p0 : (Int × (List (Int × (Int × (Int × Int)))))) (p1 : Int) (K : Int → Prop) : Prop :=
 ((((!(s_base_Within p1 (0 : Int) (IntKind.i64.wrap (p0.1 - (1 : Int))))) = true) →
  (K (6 : Int))) ∧
  (((!(s_base_Within p1 (0 : Int) (IntKind.i64.wrap (p0.1 - (1 : Int))))) = false) →
  (K (0 : Int))))
set_option maxHeartbeats 4000000 in
theorem w_ref05_StationErr_eq (p0 : (Int × (List (Int × (Int × (Int × Int)))))) (p1 : Int) (K : Int → Prop) : tfn F_ref05_StationErr A_ref05_StationErr C_ref05_StationErr P_ref05_StationErr R_ref05_StationErr (p0, p1) K = w_ref05_StationErr p0 p1 K := by kernel_rfl
def s_ref05_StationErr (p0 : (Int × (List (Int × (Int × (Int × Int)))))) (p1 : Int) : Int :=
  (cond (!(s_base_Within p1 (0 : Int) (IntKind.i64.wrap (p0.1 - (1 : Int))))) (6 : Int)
    (0 : Int))
abbrev pre_ref05_StationErr (p0 : (Int × (List (Int × (Int × (Int × Int)))))) (p1 : Int) : List Prop := []
set_option maxHeartbeats 4000000 in
theorem d_ref05_StationErr (p0 : (Int × (List (Int × (Int × (Int × Int)))))) (p1 : Int) (K : Int → Prop) (hp : ∀ p ∈ pre_ref05_StationErr p0 p1, p) (h : K (s_ref05_StationErr p0 p1)) : w_ref05_StationErr p0 p1 K := by
  unfold w_ref05_StationErr
  unfold s_ref05_StationErr at h
  exact (br' h (fun e0 h => h)
    (fun e0 h => h))
abbrev con_ref05_StationErr : Con := ⟨P_ref05_StationErr, R_ref05_StationErr, fun x => pre_ref05_StationErr x.1 x.2, fun x => s_ref05_StationErr x.1 x.2⟩
theorem ok_ref05_StationErr : ConOk Tryd.prog 83 con_ref05_StationErr := ⟨k_ref05_StationErr, fun x hx => ret_tf (ps := P_ref05_StationErr) (rs := R_ref05_StationErr) (x := x) (y := s_ref05_StationErr x.1 x.2) e_ref05_StationErr hC_ref05_StationErr (tf_of (w_ref05_StationErr_eq x.1 x.2 (fun z => z = s_ref05_StationErr x.1 x.2)) (d_ref05_StationErr x.1 x.2 (fun z => z = s_ref05_StationErr x.1 x.2) hx rfl))⟩
/- ref05_rangeErr -/
def C_ref05_rangeErr : Cons := [(60, [], con_base_Within)]
theorem hC_ref05_rangeErr : ConsOk Tryd.prog C_ref05_rangeErr := ConsOk.cons ok_base_Within <| ConsOk.nil
def w_ref05_rangeErr (p0 : (Int × Int)) (p1 : Int) (K : Int → Prop) : Prop :=
 ((((!(s_base_Within p0.1 (IntKind.i64.wrap ((0 : Int) - p1)) p1)) = false) →
  ((!(s_base_Within p0.1 (IntKind.i64.wrap ((0 : Int) - p1)) p1)) = (!(s_base_Within p0.1 (IntKind.i64.wrap ((0 : Int) - p1)) p1)))) ∧
  ((((!(s_base_Within p0.1 (IntKind.i64.wrap ((0 : Int) - p1)) p1)) = false) →
  ((!(s_base_Within p0.1 (IntKind.i64.wrap ((0 : Int) - p1)) p1)) = (!(s_base_Within p0.1 (IntKind.i64.wrap ((0 : Int) - p1)) p1)))) ∧
  ((((!(s_base_Within p0.1 (IntKind.i64.wrap ((0 : Int) - p1)) p1)) = false) →
  ((!(s_base_Within p0.1 (IntKind.i64.wrap ((0 : Int) - p1)) p1)) = (!(s_base_Within p0.1 (IntKind.i64.wrap ((0 : Int) - p1)) p1)))) ∧
  ((((!(s_base_Within p0.1 (IntKind.i64.wrap ((0 : Int) - p1)) p1)) = false) →
  ((!(s_base_Within p0.1 (IntKind.i64.wrap ((0 : Int) - p1)) p1)) = (!(s_base_Within p0.1 (IntKind.i64.wrap ((0 : Int) - p1)) p1)))) ∧
  ((((!(s_base_Within p0.1 (IntKind.i64.wrap ((0 : Int) - p1)) p1)) = false) →
  ((!(s_base_Within p0.1 (IntKind.i64.wrap ((0 : Int) - p1)) p1)) = (!(s_base_Within p0.1 (IntKind.i64.wrap ((0 : Int) - p1)) p1)))) ∧
  ((((!(s_base_Within p0.1 (IntKind.i64.wrap ((0 : Int) - p1)) p1)) = false) →
  ((!(s_base_Within p0.1 (IntKind.i64.wrap ((0 : Int) - p1)) p1)) = (!(s_base_Within p0.1 (IntKind.i64.wrap ((0 : Int) - p1)) p1)))) ∧
  (((!(s_base_Within p0.1 (IntKind.i64.wrap ((0 : Int) - p1)) p1)) = (!(s_base_Within p0.1 (IntKind.i64.wrap ((0 : Int) - p1)) p1))) ∧
  ((((cond (!(s_base_Within p0.1 (IntKind.i64.wrap ((0 : Int) - p1)) p1)) true (!(s_base_Within p0.2 (IntKind.i64.wrap ((0 : Int) - p1)) p1))) = true) →
  (K (2 : Int))) ∧
  (((cond (!(s_base_Within p0.1 (IntKind.i64.wrap ((0 : Int) - p1)) p1)) true (!(s_base_Within p0.2 (IntKind.i64.wrap ((0 : Int) - p1)) p1))) = false) →
  ((((decide (p0.1 > p0.2)) = true) →
    (K (9 : Int))) ∧
    (((decide (p0.1 > p0.2)) = false) →
    (K (0 : Int)))))))))))))
set_option maxHeartbeats 4000000 in
theorem w_ref05_rangeErr_eq (p0 : (Int × Int)) (p1 : Int) (K : Int → Prop) : tfn F_ref05_rangeErr A_ref05_rangeErr C_ref05_rangeErr P_ref05_rangeErr R_ref05_rangeErr (p0, p1) K = w_ref05_rangeErr p0 p1 K := by kernel_rfl
def s_ref05_rangeErr (p0 : (Int × Int)) (p1 : Int) : Int :=
  (cond (cond (!(s_base_Within p0.1 (IntKind.i64.wrap ((0 : Int) - p1)) p1)) true (!(s_base_Within p0.2 (IntKind.i64.wrap ((0 : Int) - p1)) p1))) (2 : Int)
    (cond (decide (p0.1 > p0.2)) (9 : Int)
    (0 : Int)))
abbrev pre_ref05_rangeErr (p0 : (Int × Int)) (p1 : Int) : List Prop := []
set_option maxHeartbeats 4000000 in
theorem d_ref05_rangeErr (p0 : (Int × Int)) (p1 : Int) (K : Int → Prop) (hp : ∀ p ∈ pre_ref05_rangeErr p0 p1, p) (h : K (s_ref05_rangeErr p0 p1)) : w_ref05_rangeErr p0 p1 K := by
  unfold w_ref05_rangeErr
  unfold s_ref05_rangeErr at h
  exact ⟨rf, rf, rf, rf, rf, rf, rfl, (br' h (fun e0 h => h)
    (fun e0 h => (br' h (fun e1 h => h)
    (fun e1 h => h))))⟩
theorem tx_eqw {n lo hi : Int} : s_base_Within n lo hi = s_gravity_within n lo hi := rfl
abbrev t_ref05_rangeErr (p0 : Int × Int) (p1 : Int) : Int := s_gravity_rangeErr p0 p1
abbrev qre_ref05_rangeErr (_ : Int × Int) (_ : Int) : List Prop := []
theorem pp_ref05_rangeErr (p0 : Int × Int) (p1 : Int) (_ : ∀ p ∈ qre_ref05_rangeErr p0 p1, p) : ∀ p ∈ pre_ref05_rangeErr p0 p1, p := by intro p hp; simp at hp
theorem tt_ref05_rangeErr (p0 : Int × Int) (p1 : Int) (_ : ∀ p ∈ qre_ref05_rangeErr p0 p1, p) : s_ref05_rangeErr p0 p1 = t_ref05_rangeErr p0 p1 := by
  unfold s_ref05_rangeErr t_ref05_rangeErr s_gravity_rangeErr s_gravity_isSized
  simp only [tx_eqw]
  rcases Int.lt_or_le p0.2 p0.1 with h | h
  · have h' : ¬ p0.1 ≤ p0.2 := by omega
    cases s_gravity_within p0.1 (IntKind.i64.wrap (0 - p1)) p1 <;> cases s_gravity_within p0.2 (IntKind.i64.wrap (0 - p1)) p1 <;> simp [s_gravity_unless, v_first, h, h']
  · have h' : ¬ p0.2 < p0.1 := by omega
    cases s_gravity_within p0.1 (IntKind.i64.wrap (0 - p1)) p1 <;> cases s_gravity_within p0.2 (IntKind.i64.wrap (0 - p1)) p1 <;> simp [s_gravity_unless, v_first, h, h']

abbrev con_ref05_rangeErr : Con := ⟨P_ref05_rangeErr, R_ref05_rangeErr, fun x => qre_ref05_rangeErr x.1 x.2, fun x => t_ref05_rangeErr x.1 x.2⟩
theorem ok_ref05_rangeErr : ConOk Tryd.prog 103 con_ref05_rangeErr := ⟨k_ref05_rangeErr, fun x hx => ret_tf (ps := P_ref05_rangeErr) (rs := R_ref05_rangeErr) (x := x) (y := t_ref05_rangeErr x.1 x.2) e_ref05_rangeErr hC_ref05_rangeErr (tf_of (w_ref05_rangeErr_eq x.1 x.2 (fun z => z = t_ref05_rangeErr x.1 x.2)) (d_ref05_rangeErr x.1 x.2 (fun z => z = t_ref05_rangeErr x.1 x.2) (pp_ref05_rangeErr x.1 x.2 hx) (tt_ref05_rangeErr x.1 x.2 hx)))⟩
/- ref05_CheckNet -/
def C_ref05_CheckNet : Cons := [(60, [], con_base_Within), (83, [], con_ref05_StationErr), (103, [], con_ref05_rangeErr)]
theorem hC_ref05_CheckNet : ConsOk Tryd.prog C_ref05_CheckNet := ConsOk.cons ok_base_Within <| ConsOk.cons ok_ref05_StationErr <| ConsOk.cons ok_ref05_rangeErr <| ConsOk.nil
abbrev q1_ref05_CheckNet (p0 : (Int × (List (Int × (Int × (Int × Int)))))) (y1 : Int) := (List.getD p0.2 (Int.toNat y1) (zz0, (zz0, (zz0, zz0))))
abbrev q0_ref05_CheckNet (p0 : (Int × (List (Int × (Int × (Int × Int)))))) (y1 : Int) := ((s_ref05_StationErr p0 (q1_ref05_CheckNet p0 y1).1) != zz0)
def w_ref05_CheckNet (p0 : (Int × (List (Int × (Int × (Int × Int)))))) (K : (Int × Int) → Prop) : Prop :=
 ((((!(s_base_Within p0.1 zz1 (8 : Int))) = true) →
  (K (zz0, zz2))) ∧
  (((!(s_base_Within p0.1 zz1 (8 : Int))) = false) →
  ((((decide ((((List.length p0.2) : Nat) : Int) > (12 : Int))) = true) →
    (K (zz0, (8 : Int)))) ∧
    (((decide ((((List.length p0.2) : Nat) : Int) > (12 : Int))) = false) →
    (∃ n0, (loopP (fun (y1 : Int) k2 =>
        ((((decide (y1 < (((List.length p0.2) : Nat) : Int))) = true) →
        ((zz0 ≤ y1) ∧
          ((y1 < (((List.length p0.2) : Nat) : Int)) ∧
          ((((q0_ref05_CheckNet p0 y1) = false) →
          ((q0_ref05_CheckNet p0 y1) = (q0_ref05_CheckNet p0 y1))) ∧
          ((((q0_ref05_CheckNet p0 y1) = false) →
          ((q0_ref05_CheckNet p0 y1) = (q0_ref05_CheckNet p0 y1))) ∧
          ((((q0_ref05_CheckNet p0 y1) = false) →
          ((q0_ref05_CheckNet p0 y1) = (q0_ref05_CheckNet p0 y1))) ∧
          ((((q0_ref05_CheckNet p0 y1) = false) →
          ((q0_ref05_CheckNet p0 y1) = (q0_ref05_CheckNet p0 y1))) ∧
          (((q0_ref05_CheckNet p0 y1) = (q0_ref05_CheckNet p0 y1)) ∧
          ((((cond (q0_ref05_CheckNet p0 y1) true ((s_ref05_StationErr p0 (q1_ref05_CheckNet p0 y1).2.1) != zz0)) = true) →
          (K (y1, (6 : Int)))) ∧
          (((cond (q0_ref05_CheckNet p0 y1) true ((s_ref05_StationErr p0 (q1_ref05_CheckNet p0 y1).2.1) != zz0)) = false) →
          (((((q1_ref05_CheckNet p0 y1).1 == (q1_ref05_CheckNet p0 y1).2.1) = true) →
            (K (y1, (13 : Int)))) ∧
            ((((q1_ref05_CheckNet p0 y1).1 == (q1_ref05_CheckNet p0 y1).2.1) = false) →
            (((((s_gravity_rangeErr (q1_ref05_CheckNet p0 y1).2.2 (1000000 : Int)) != zz0) = true) →
              (K (y1, (s_gravity_rangeErr (q1_ref05_CheckNet p0 y1).2.2 (1000000 : Int))))) ∧
              ((((s_gravity_rangeErr (q1_ref05_CheckNet p0 y1).2.2 (1000000 : Int)) != zz0) = false) →
              (k2 (wi (y1 + zz1))))))))))))))))) ∧
        (((decide (y1 < (((List.length p0.2) : Nat) : Int))) = false) →
        (K (zz0, zz0))))) n0 zz0))))))
set_option maxHeartbeats 4000000 in
theorem w_ref05_CheckNet_eq (p0 : (Int × (List (Int × (Int × (Int × Int)))))) (K : (Int × Int) → Prop) : tfn F_ref05_CheckNet A_ref05_CheckNet C_ref05_CheckNet P_ref05_CheckNet R_ref05_CheckNet p0 K = w_ref05_CheckNet p0 K := by kernel_rfl
def st_ref05_CheckNet_0 (p0 : (Int × (List (Int × (Int × (Int × Int)))))) (y2 : Int) : Int ⊕ (Int × Int) :=
  (cond (decide (y2 < (((List.length p0.2) : Nat) : Int))) (cond (cond ((s_ref05_StationErr p0 (List.getD p0.2 (Int.toNat y2) ((0 : Int), ((0 : Int), ((0 : Int), (0 : Int))))).1) != (0 : Int)) true ((s_ref05_StationErr p0 (List.getD p0.2 (Int.toNat y2) ((0 : Int), ((0 : Int), ((0 : Int), (0 : Int))))).2.1) != (0 : Int))) (Sum.inr (y2, (6 : Int)))
    (cond ((List.getD p0.2 (Int.toNat y2) ((0 : Int), ((0 : Int), ((0 : Int), (0 : Int))))).1 == (List.getD p0.2 (Int.toNat y2) ((0 : Int), ((0 : Int), ((0 : Int), (0 : Int))))).2.1) (Sum.inr (y2, (13 : Int)))
    (cond ((s_gravity_rangeErr (List.getD p0.2 (Int.toNat y2) ((0 : Int), ((0 : Int), ((0 : Int), (0 : Int))))).2.2 (1000000 : Int)) != (0 : Int)) (Sum.inr (y2, (s_gravity_rangeErr (List.getD p0.2 (Int.toNat y2) ((0 : Int), ((0 : Int), ((0 : Int), (0 : Int))))).2.2 (1000000 : Int))))
    (Sum.inl (IntKind.i64.wrap (y2 + (1 : Int)))))))
    (Sum.inr ((0 : Int), (0 : Int))))
abbrev sp_ref05_CheckNet_0 (p0 : (Int × (List (Int × (Int × (Int × Int)))))) (y2 : Int) : List Prop := [(((decide (y2 < (((List.length p0.2) : Nat) : Int))) = true) → ((0 : Int) ≤ y2)),
    (((decide (y2 < (((List.length p0.2) : Nat) : Int))) = true) → (y2 < (((List.length p0.2) : Nat) : Int)))]
def s_ref05_CheckNet (p0 : (Int × (List (Int × (Int × (Int × Int)))))) : (Int × Int) :=
  (cond (!(s_base_Within p0.1 (1 : Int) (8 : Int))) ((0 : Int), (2 : Int))
    (cond (decide ((((List.length p0.2) : Nat) : Int) > (12 : Int))) ((0 : Int), (8 : Int))
    (lpv ((0 : Int), (0 : Int)) (st_ref05_CheckNet_0 p0) (0 : Int))))
abbrev pre_ref05_CheckNet (p0 : (Int × (List (Int × (Int × (Int × Int)))))) : List Prop := [(((!(s_base_Within p0.1 (1 : Int) (8 : Int))) = false) → (((decide ((((List.length p0.2) : Nat) : Int) > (12 : Int))) = false) → (OkL (st_ref05_CheckNet_0 p0) (sp_ref05_CheckNet_0 p0) (0 : Int))))]
set_option maxHeartbeats 4000000 in
theorem d_ref05_CheckNet (p0 : (Int × (List (Int × (Int × (Int × Int)))))) (K : (Int × Int) → Prop) (hp : ∀ p ∈ pre_ref05_CheckNet p0, p) (h : K (s_ref05_CheckNet p0)) : w_ref05_CheckNet p0 K := by
  unfold w_ref05_CheckNet
  unfold s_ref05_CheckNet at h
  obtain ⟨hp0, _⟩ := conj_of hp
  exact (br' h (fun e0 h => h)
    (fun e0 h => (br' h (fun e1 h => h)
    (fun e1 h => (loop_gen (hp0 e0 e1) h (fun y2 k2 hp h => by
  unfold st_ref05_CheckNet_0 at h; obtain ⟨hp0, hp1, _⟩ := conj_of hp
  exact (br' h (fun e3 h => ⟨(hp0 e3), (hp1 e3), rf, rf, rf, rf, rfl, (br' h (fun e4 h => h)
    (fun e4 h => (br' h (fun e5 h => h)
    (fun e5 h => (br' h (fun e6 h => h)
    (fun e6 h => h))))))⟩)
    (fun e3 h => h))))))))
theorem l_ref05_CheckNet_0 (p0 : Int × List (Int × Int × Int × Int)) (hl : lenOk p0.2) : OkL (st_ref05_CheckNet_0 p0) (sp_ref05_CheckNet_0 p0) 0 ∧ lpv ((0 : Int), (0 : Int)) (st_ref05_CheckNet_0 p0) 0 = v_scan (fun i t => cond (v_tierr p0.1 t != 0) (some (i, v_tierr p0.1 t)) none) ((0 : Int), (0 : Int)) 0 p0.2 := by
  refine scan_is p0.2 (0, 0, 0, 0) (fun i t => cond (v_tierr p0.1 t != 0) (some (i, v_tierr p0.1 t)) none) ((0 : Int), (0 : Int)) hl ?_ ?_
  · refine ⟨by simp only [sp_ref05_CheckNet_0, List.forall_mem_cons, decide_eq_true_eq]; simp, by simp [st_ref05_CheckNet_0]⟩
  · intro j hj
    have hj' : (j : Int) < p0.2.length := by omega
    refine ⟨by simp only [sp_ref05_CheckNet_0, List.forall_mem_cons, decide_eq_true_eq, Int.toNat_natCast]; simp <;> omega, ?_⟩
    simp only [st_ref05_CheckNet_0, hj', decide_true, Int.toNat_natCast, cond_true, wrap_nat (show (j : Int) ≤ 9223372036854775806 by unfold lenOk at hl; omega)]
    generalize p0.2.getD j (0, 0, 0, 0) = x
    simp only [s_ref05_StationErr, tx_eqw]
    show cond (cond (cond (!s_gravity_within x.1 0 (IntKind.i64.wrap (p0.1 - 1))) 6 0 != 0) true (cond (!s_gravity_within x.2.1 0 (IntKind.i64.wrap (p0.1 - 1))) 6 0 != 0)) (Sum.inr ((j : Int), (6 : Int))) (cond (x.1 == x.2.1) (Sum.inr ((j : Int), (13 : Int))) (cond (s_gravity_rangeErr x.2.2 1000000 != 0) (Sum.inr ((j : Int), s_gravity_rangeErr x.2.2 1000000)) (Sum.inl ((j + 1 : Nat) : Int)))) = _
    unfold v_tierr
    rw [show (x.1 != x.2.1) = !(x.1 == x.2.1) from rfl]
    cases s_gravity_within x.1 0 (IntKind.i64.wrap (p0.1 - 1)) <;> cases s_gravity_within x.2.1 0 (IntKind.i64.wrap (p0.1 - 1)) <;> cases (x.1 == x.2.1) <;> try rfl
    simp only [v_first, s_gravity_unless, Bool.not_false, Bool.not_true, cond_true, cond_false, show ((0 : Int) != 0) = false from rfl]
    cases he : (s_gravity_rangeErr x.2.2 1000000 != 0)
    · rfl
    · simp only [cond_true, he]
abbrev t_ref05_CheckNet (p0 : Int × List (Int × Int × Int × Int)) : Int × Int := v_net p0
abbrev qre_ref05_CheckNet (_ : Int × List (Int × Int × Int × Int)) : List Prop := []
theorem pp_ref05_CheckNet (p0 : Int × List (Int × Int × Int × Int)) (_ : ∀ p ∈ qre_ref05_CheckNet p0, p) : ∀ p ∈ pre_ref05_CheckNet p0, p := by
  simp only [pre_ref05_CheckNet, List.forall_mem_cons]
  exact ⟨fun _ h => (l_ref05_CheckNet_0 p0 (lenOk_le (n := 12) (by have := of_decide_eq_false h; omega) (by decide))).1, by simp⟩
theorem tt_ref05_CheckNet (p0 : Int × List (Int × Int × Int × Int)) (_ : ∀ p ∈ qre_ref05_CheckNet p0, p) : s_ref05_CheckNet p0 = t_ref05_CheckNet p0 := by
  unfold s_ref05_CheckNet t_ref05_CheckNet v_net v_neterr
  simp only [tx_eqw]
  cases h1 : s_gravity_within p0.1 1 8
  · rfl
  · rcases Int.lt_or_le 12 (p0.2.length : Int) with h | h
    · have h' : ¬ (p0.2.length : Int) ≤ 12 := by omega
      simp [s_gravity_unless, v_first, h, h']
    · have h' : ¬ (p0.2.length : Int) > 12 := by omega
      rw [(l_ref05_CheckNet_0 p0 (lenOk_le (n := 12) (by omega) (by decide))).2]
      simp [s_gravity_unless, v_first, h, h']

abbrev con_ref05_CheckNet : Con := ⟨P_ref05_CheckNet, R_ref05_CheckNet, fun x => qre_ref05_CheckNet x, fun x => t_ref05_CheckNet x⟩
theorem ok_ref05_CheckNet : ConOk Tryd.prog 45 con_ref05_CheckNet := ⟨k_ref05_CheckNet, fun x hx => ret_tf (ps := P_ref05_CheckNet) (rs := R_ref05_CheckNet) (x := x) (y := t_ref05_CheckNet x) e_ref05_CheckNet hC_ref05_CheckNet (tf_of (w_ref05_CheckNet_eq x (fun z => z = t_ref05_CheckNet x)) (d_ref05_CheckNet x (fun z => z = t_ref05_CheckNet x) (pp_ref05_CheckNet x hx) (tt_ref05_CheckNet x hx)))⟩
/- ref05_lowered -/
def C_ref05_lowered : Cons := [(31, ownMark, con_base_CopyInts)]
theorem hC_ref05_lowered : ConsOk Tryd.prog C_ref05_lowered := ConsOk.consO ok_base_CopyInts <| ConsOk.nil
abbrev q0_ref05_lowered (p0 : (Int × (List (Int × (Int × (Int × Int)))))) (p1 : (List Int)) (y4 : (Int × (Bool × (List Int)))) := (List.getD p0.2 (Int.toNat (List.getD p1 (Int.toNat y4.1) zz0)) (zz0, (zz0, (zz0, zz0))))
abbrev q1_ref05_lowered (p0 : (Int × (List (Int × (Int × (Int × Int)))))) (p1 : (List Int)) (y4 : (Int × (Bool × (List Int)))) := ((List.getD y4.2.2 (Int.toNat (q0_ref05_lowered p0 p1 y4).1) zz0) + (q0_ref05_lowered p0 p1 y4).2.2.2)
def w_ref05_lowered (p0 : (Int × (List (Int × (Int × (Int × Int)))))) (p1 : (List Int)) (p2 : (List Int)) (K : ((List Int) × Bool) → Prop) : Prop :=
 (((List.length p2) ≤ 1000000) ∧
  (∃ n0, (loopP (fun (y1 : (Int × (List Int))) k2 =>
    ((((decide (y1.1 ≤ p0.1)) = true) →
    (∃ n3, (loopP (fun (y4 : (Int × (Bool × (List Int)))) k5 =>
        ((((decide (y4.1 < (((List.length p1) : Nat) : Int))) = true) →
        ((zz0 ≤ y4.1) ∧
          ((y4.1 < (((List.length p1) : Nat) : Int)) ∧
          ((zz0 ≤ (List.getD p1 (Int.toNat y4.1) zz0)) ∧
          (((List.getD p1 (Int.toNat y4.1) zz0) < (((List.length p0.2) : Nat) : Int)) ∧
          ((zz0 ≤ (q0_ref05_lowered p0 p1 y4).2.1) ∧
          (((q0_ref05_lowered p0 p1 y4).2.1 < (((List.length y4.2.2) : Nat) : Int)) ∧
          ((zz0 ≤ (q0_ref05_lowered p0 p1 y4).1) ∧
          (((q0_ref05_lowered p0 p1 y4).1 < (((List.length y4.2.2) : Nat) : Int)) ∧
          ((((decide ((List.getD y4.2.2 (Int.toNat (q0_ref05_lowered p0 p1 y4).2.1) zz0) > (wi (q1_ref05_lowered p0 p1 y4)))) = true) →
          ((zz0 ≤ (q0_ref05_lowered p0 p1 y4).1) ∧
            (((q0_ref05_lowered p0 p1 y4).1 < (((List.length y4.2.2) : Nat) : Int)) ∧
            ((zz0 ≤ (q0_ref05_lowered p0 p1 y4).2.1) ∧
            (((q0_ref05_lowered p0 p1 y4).2.1 < (((List.length y4.2.2) : Nat) : Int)) ∧
            ((zz0 ≤ (q0_ref05_lowered p0 p1 y4).1) ∧
            (((q0_ref05_lowered p0 p1 y4).1 < (((List.length (List.set y4.2.2 (Int.toNat (q0_ref05_lowered p0 p1 y4).2.1) (wi (q1_ref05_lowered p0 p1 y4)))) : Nat) : Int)) ∧
            ((zz0 ≤ (q0_ref05_lowered p0 p1 y4).2.1) ∧
            (((q0_ref05_lowered p0 p1 y4).2.1 < (((List.length (List.set y4.2.2 (Int.toNat (q0_ref05_lowered p0 p1 y4).2.1) (wi (q1_ref05_lowered p0 p1 y4)))) : Nat) : Int)) ∧
            ((((decide ((List.getD (List.set y4.2.2 (Int.toNat (q0_ref05_lowered p0 p1 y4).2.1) (wi (q1_ref05_lowered p0 p1 y4))) (Int.toNat (q0_ref05_lowered p0 p1 y4).1) zz0) > (wi ((List.getD (List.set y4.2.2 (Int.toNat (q0_ref05_lowered p0 p1 y4).2.1) (wi (q1_ref05_lowered p0 p1 y4))) (Int.toNat (q0_ref05_lowered p0 p1 y4).2.1) zz0) - (q0_ref05_lowered p0 p1 y4).2.2.1)))) = true) →
            ((zz0 ≤ (q0_ref05_lowered p0 p1 y4).2.1) ∧
              (((q0_ref05_lowered p0 p1 y4).2.1 < (((List.length (List.set y4.2.2 (Int.toNat (q0_ref05_lowered p0 p1 y4).2.1) (wi (q1_ref05_lowered p0 p1 y4)))) : Nat) : Int)) ∧
              ((zz0 ≤ (q0_ref05_lowered p0 p1 y4).1) ∧
              (((q0_ref05_lowered p0 p1 y4).1 < (((List.length (List.set y4.2.2 (Int.toNat (q0_ref05_lowered p0 p1 y4).2.1) (wi (q1_ref05_lowered p0 p1 y4)))) : Nat) : Int)) ∧
              (k5 ((wi (y4.1 + zz1)), (true, (List.set (List.set y4.2.2 (Int.toNat (q0_ref05_lowered p0 p1 y4).2.1) (wi (q1_ref05_lowered p0 p1 y4))) (Int.toNat (q0_ref05_lowered p0 p1 y4).1) (wi ((List.getD (List.set y4.2.2 (Int.toNat (q0_ref05_lowered p0 p1 y4).2.1) (wi (q1_ref05_lowered p0 p1 y4))) (Int.toNat (q0_ref05_lowered p0 p1 y4).2.1) zz0) - (q0_ref05_lowered p0 p1 y4).2.2.1))))))))))) ∧
            (((decide ((List.getD (List.set y4.2.2 (Int.toNat (q0_ref05_lowered p0 p1 y4).2.1) (wi (q1_ref05_lowered p0 p1 y4))) (Int.toNat (q0_ref05_lowered p0 p1 y4).1) zz0) > (wi ((List.getD (List.set y4.2.2 (Int.toNat (q0_ref05_lowered p0 p1 y4).2.1) (wi (q1_ref05_lowered p0 p1 y4))) (Int.toNat (q0_ref05_lowered p0 p1 y4).2.1) zz0) - (q0_ref05_lowered p0 p1 y4).2.2.1)))) = false) →
            (k5 ((wi (y4.1 + zz1)), (true, (List.set y4.2.2 (Int.toNat (q0_ref05_lowered p0 p1 y4).2.1) (wi (q1_ref05_lowered p0 p1 y4))))))))))))))))) ∧
          (((decide ((List.getD y4.2.2 (Int.toNat (q0_ref05_lowered p0 p1 y4).2.1) zz0) > (wi (q1_ref05_lowered p0 p1 y4)))) = false) →
          ((zz0 ≤ (q0_ref05_lowered p0 p1 y4).1) ∧
            (((q0_ref05_lowered p0 p1 y4).1 < (((List.length y4.2.2) : Nat) : Int)) ∧
            ((zz0 ≤ (q0_ref05_lowered p0 p1 y4).2.1) ∧
            (((q0_ref05_lowered p0 p1 y4).2.1 < (((List.length y4.2.2) : Nat) : Int)) ∧
            ((((decide ((List.getD y4.2.2 (Int.toNat (q0_ref05_lowered p0 p1 y4).1) zz0) > (wi ((List.getD y4.2.2 (Int.toNat (q0_ref05_lowered p0 p1 y4).2.1) zz0) - (q0_ref05_lowered p0 p1 y4).2.2.1)))) = true) →
            ((zz0 ≤ (q0_ref05_lowered p0 p1 y4).2.1) ∧
              (((q0_ref05_lowered p0 p1 y4).2.1 < (((List.length y4.2.2) : Nat) : Int)) ∧
              ((zz0 ≤ (q0_ref05_lowered p0 p1 y4).1) ∧
              (((q0_ref05_lowered p0 p1 y4).1 < (((List.length y4.2.2) : Nat) : Int)) ∧
              (k5 ((wi (y4.1 + zz1)), (true, (List.set y4.2.2 (Int.toNat (q0_ref05_lowered p0 p1 y4).1) (wi ((List.getD y4.2.2 (Int.toNat (q0_ref05_lowered p0 p1 y4).2.1) zz0) - (q0_ref05_lowered p0 p1 y4).2.2.1))))))))))) ∧
            (((decide ((List.getD y4.2.2 (Int.toNat (q0_ref05_lowered p0 p1 y4).1) zz0) > (wi ((List.getD y4.2.2 (Int.toNat (q0_ref05_lowered p0 p1 y4).2.1) zz0) - (q0_ref05_lowered p0 p1 y4).2.2.1)))) = false) →
            (k5 ((wi (y4.1 + zz1)), y4.2))))))))))))))))))) ∧
        (((decide (y4.1 < (((List.length p1) : Nat) : Int))) = false) →
        ((((!y4.2.1) = true) →
          (K (y4.2.2, true))) ∧
          (((!y4.2.1) = false) →
          (k2 ((wi (y1.1 + zz1)), y4.2.2))))))) n3 (zz0, (false, y1.2))))) ∧
    (((decide (y1.1 ≤ p0.1)) = false) →
    (K (([] : List Int), false))))) n0 (zz0, p2))))
set_option maxHeartbeats 4000000 in
theorem w_ref05_lowered_eq (p0 : (Int × (List (Int × (Int × (Int × Int)))))) (p1 : (List Int)) (p2 : (List Int)) (K : ((List Int) × Bool) → Prop) : tfn F_ref05_lowered A_ref05_lowered C_ref05_lowered P_ref05_lowered R_ref05_lowered (p0, p1, p2) K = w_ref05_lowered p0 p1 p2 K := by kernel_rfl
def st_ref05_lowered_0 (p0 : (Int × (List (Int × (Int × (Int × Int)))))) (p1 : (List Int)) (p2 : (List Int)) (y0 : (Int × (List Int))) (y2 : (Int × (Bool × (List Int)))) : (Int × (Bool × (List Int))) ⊕ ((Int × (List Int)) ⊕ ((List Int) × Bool)) :=
  (cond (decide (y2.1 < (((List.length p1) : Nat) : Int))) (cond (decide ((List.getD y2.2.2 (Int.toNat (List.getD p0.2 (Int.toNat (List.getD p1 (Int.toNat y2.1) (0 : Int))) ((0 : Int), ((0 : Int), ((0 : Int), (0 : Int))))).2.1) (0 : Int)) > (IntKind.i64.wrap ((List.getD y2.2.2 (Int.toNat (List.getD p0.2 (Int.toNat (List.getD p1 (Int.toNat y2.1) (0 : Int))) ((0 : Int), ((0 : Int), ((0 : Int), (0 : Int))))).1) (0 : Int)) + (List.getD p0.2 (Int.toNat (List.getD p1 (Int.toNat y2.1) (0 : Int))) ((0 : Int), ((0 : Int), ((0 : Int), (0 : Int))))).2.2.2)))) (cond (decide ((List.getD (List.set y2.2.2 (Int.toNat (List.getD p0.2 (Int.toNat (List.getD p1 (Int.toNat y2.1) (0 : Int))) ((0 : Int), ((0 : Int), ((0 : Int), (0 : Int))))).2.1) (IntKind.i64.wrap ((List.getD y2.2.2 (Int.toNat (List.getD p0.2 (Int.toNat (List.getD p1 (Int.toNat y2.1) (0 : Int))) ((0 : Int), ((0 : Int), ((0 : Int), (0 : Int))))).1) (0 : Int)) + (List.getD p0.2 (Int.toNat (List.getD p1 (Int.toNat y2.1) (0 : Int))) ((0 : Int), ((0 : Int), ((0 : Int), (0 : Int))))).2.2.2))) (Int.toNat (List.getD p0.2 (Int.toNat (List.getD p1 (Int.toNat y2.1) (0 : Int))) ((0 : Int), ((0 : Int), ((0 : Int), (0 : Int))))).1) (0 : Int)) > (IntKind.i64.wrap ((List.getD (List.set y2.2.2 (Int.toNat (List.getD p0.2 (Int.toNat (List.getD p1 (Int.toNat y2.1) (0 : Int))) ((0 : Int), ((0 : Int), ((0 : Int), (0 : Int))))).2.1) (IntKind.i64.wrap ((List.getD y2.2.2 (Int.toNat (List.getD p0.2 (Int.toNat (List.getD p1 (Int.toNat y2.1) (0 : Int))) ((0 : Int), ((0 : Int), ((0 : Int), (0 : Int))))).1) (0 : Int)) + (List.getD p0.2 (Int.toNat (List.getD p1 (Int.toNat y2.1) (0 : Int))) ((0 : Int), ((0 : Int), ((0 : Int), (0 : Int))))).2.2.2))) (Int.toNat (List.getD p0.2 (Int.toNat (List.getD p1 (Int.toNat y2.1) (0 : Int))) ((0 : Int), ((0 : Int), ((0 : Int), (0 : Int))))).2.1) (0 : Int)) - (List.getD p0.2 (Int.toNat (List.getD p1 (Int.toNat y2.1) (0 : Int))) ((0 : Int), ((0 : Int), ((0 : Int), (0 : Int))))).2.2.1)))) (Sum.inl ((IntKind.i64.wrap (y2.1 + (1 : Int))), (true, (List.set (List.set y2.2.2 (Int.toNat (List.getD p0.2 (Int.toNat (List.getD p1 (Int.toNat y2.1) (0 : Int))) ((0 : Int), ((0 : Int), ((0 : Int), (0 : Int))))).2.1) (IntKind.i64.wrap ((List.getD y2.2.2 (Int.toNat (List.getD p0.2 (Int.toNat (List.getD p1 (Int.toNat y2.1) (0 : Int))) ((0 : Int), ((0 : Int), ((0 : Int), (0 : Int))))).1) (0 : Int)) + (List.getD p0.2 (Int.toNat (List.getD p1 (Int.toNat y2.1) (0 : Int))) ((0 : Int), ((0 : Int), ((0 : Int), (0 : Int))))).2.2.2))) (Int.toNat (List.getD p0.2 (Int.toNat (List.getD p1 (Int.toNat y2.1) (0 : Int))) ((0 : Int), ((0 : Int), ((0 : Int), (0 : Int))))).1) (IntKind.i64.wrap ((List.getD (List.set y2.2.2 (Int.toNat (List.getD p0.2 (Int.toNat (List.getD p1 (Int.toNat y2.1) (0 : Int))) ((0 : Int), ((0 : Int), ((0 : Int), (0 : Int))))).2.1) (IntKind.i64.wrap ((List.getD y2.2.2 (Int.toNat (List.getD p0.2 (Int.toNat (List.getD p1 (Int.toNat y2.1) (0 : Int))) ((0 : Int), ((0 : Int), ((0 : Int), (0 : Int))))).1) (0 : Int)) + (List.getD p0.2 (Int.toNat (List.getD p1 (Int.toNat y2.1) (0 : Int))) ((0 : Int), ((0 : Int), ((0 : Int), (0 : Int))))).2.2.2))) (Int.toNat (List.getD p0.2 (Int.toNat (List.getD p1 (Int.toNat y2.1) (0 : Int))) ((0 : Int), ((0 : Int), ((0 : Int), (0 : Int))))).2.1) (0 : Int)) - (List.getD p0.2 (Int.toNat (List.getD p1 (Int.toNat y2.1) (0 : Int))) ((0 : Int), ((0 : Int), ((0 : Int), (0 : Int))))).2.2.1))))))
    (Sum.inl ((IntKind.i64.wrap (y2.1 + (1 : Int))), (true, (List.set y2.2.2 (Int.toNat (List.getD p0.2 (Int.toNat (List.getD p1 (Int.toNat y2.1) (0 : Int))) ((0 : Int), ((0 : Int), ((0 : Int), (0 : Int))))).2.1) (IntKind.i64.wrap ((List.getD y2.2.2 (Int.toNat (List.getD p0.2 (Int.toNat (List.getD p1 (Int.toNat y2.1) (0 : Int))) ((0 : Int), ((0 : Int), ((0 : Int), (0 : Int))))).1) (0 : Int)) + (List.getD p0.2 (Int.toNat (List.getD p1 (Int.toNat y2.1) (0 : Int))) ((0 : Int), ((0 : Int), ((0 : Int), (0 : Int))))).2.2.2)))))))
    (cond (decide ((List.getD y2.2.2 (Int.toNat (List.getD p0.2 (Int.toNat (List.getD p1 (Int.toNat y2.1) (0 : Int))) ((0 : Int), ((0 : Int), ((0 : Int), (0 : Int))))).1) (0 : Int)) > (IntKind.i64.wrap ((List.getD y2.2.2 (Int.toNat (List.getD p0.2 (Int.toNat (List.getD p1 (Int.toNat y2.1) (0 : Int))) ((0 : Int), ((0 : Int), ((0 : Int), (0 : Int))))).2.1) (0 : Int)) - (List.getD p0.2 (Int.toNat (List.getD p1 (Int.toNat y2.1) (0 : Int))) ((0 : Int), ((0 : Int), ((0 : Int), (0 : Int))))).2.2.1)))) (Sum.inl ((IntKind.i64.wrap (y2.1 + (1 : Int))), (true, (List.set y2.2.2 (Int.toNat (List.getD p0.2 (Int.toNat (List.getD p1 (Int.toNat y2.1) (0 : Int))) ((0 : Int), ((0 : Int), ((0 : Int), (0 : Int))))).1) (IntKind.i64.wrap ((List.getD y2.2.2 (Int.toNat (List.getD p0.2 (Int.toNat (List.getD p1 (Int.toNat y2.1) (0 : Int))) ((0 : Int), ((0 : Int), ((0 : Int), (0 : Int))))).2.1) (0 : Int)) - (List.getD p0.2 (Int.toNat (List.getD p1 (Int.toNat y2.1) (0 : Int))) ((0 : Int), ((0 : Int), ((0 : Int), (0 : Int))))).2.2.1))))))
    (Sum.inl ((IntKind.i64.wrap (y2.1 + (1 : Int))), y2.2))))
    (cond (!y2.2.1) (Sum.inr (Sum.inr (y2.2.2, true)))
    (Sum.inr (Sum.inl ((IntKind.i64.wrap (y0.1 + (1 : Int))), y2.2.2)))))
abbrev sp_ref05_lowered_0 (p0 : (Int × (List (Int × (Int × (Int × Int)))))) (p1 : (List Int)) (p2 : (List Int)) (y0 : (Int × (List Int))) (y2 : (Int × (Bool × (List Int)))) : List Prop := [(((decide (y2.1 < (((List.length p1) : Nat) : Int))) = true) → ((0 : Int) ≤ y2.1)),
    (((decide (y2.1 < (((List.length p1) : Nat) : Int))) = true) → (y2.1 < (((List.length p1) : Nat) : Int))),
    (((decide (y2.1 < (((List.length p1) : Nat) : Int))) = true) → ((0 : Int) ≤ (List.getD p1 (Int.toNat y2.1) (0 : Int)))),
    (((decide (y2.1 < (((List.length p1) : Nat) : Int))) = true) → ((List.getD p1 (Int.toNat y2.1) (0 : Int)) < (((List.length p0.2) : Nat) : Int))),
    (((decide (y2.1 < (((List.length p1) : Nat) : Int))) = true) → ((0 : Int) ≤ (List.getD p0.2 (Int.toNat (List.getD p1 (Int.toNat y2.1) (0 : Int))) ((0 : Int), ((0 : Int), ((0 : Int), (0 : Int))))).2.1)),
    (((decide (y2.1 < (((List.length p1) : Nat) : Int))) = true) → ((List.getD p0.2 (Int.toNat (List.getD p1 (Int.toNat y2.1) (0 : Int))) ((0 : Int), ((0 : Int), ((0 : Int), (0 : Int))))).2.1 < (((List.length y2.2.2) : Nat) : Int))),
    (((decide (y2.1 < (((List.length p1) : Nat) : Int))) = true) → ((0 : Int) ≤ (List.getD p0.2 (Int.toNat (List.getD p1 (Int.toNat y2.1) (0 : Int))) ((0 : Int), ((0 : Int), ((0 : Int), (0 : Int))))).1)),
    (((decide (y2.1 < (((List.length p1) : Nat) : Int))) = true) → ((List.getD p0.2 (Int.toNat (List.getD p1 (Int.toNat y2.1) (0 : Int))) ((0 : Int), ((0 : Int), ((0 : Int), (0 : Int))))).1 < (((List.length y2.2.2) : Nat) : Int))),
    (((decide (y2.1 < (((List.length p1) : Nat) : Int))) = true) → (((decide ((List.getD y2.2.2 (Int.toNat (List.getD p0.2 (Int.toNat (List.getD p1 (Int.toNat y2.1) (0 : Int))) ((0 : Int), ((0 : Int), ((0 : Int), (0 : Int))))).2.1) (0 : Int)) > (IntKind.i64.wrap ((List.getD y2.2.2 (Int.toNat (List.getD p0.2 (Int.toNat (List.getD p1 (Int.toNat y2.1) (0 : Int))) ((0 : Int), ((0 : Int), ((0 : Int), (0 : Int))))).1) (0 : Int)) + (List.getD p0.2 (Int.toNat (List.getD p1 (Int.toNat y2.1) (0 : Int))) ((0 : Int), ((0 : Int), ((0 : Int), (0 : Int))))).2.2.2)))) = true) → ((0 : Int) ≤ (List.getD p0.2 (Int.toNat (List.getD p1 (Int.toNat y2.1) (0 : Int))) ((0 : Int), ((0 : Int), ((0 : Int), (0 : Int))))).1))),
    (((decide (y2.1 < (((List.length p1) : Nat) : Int))) = true) → (((decide ((List.getD y2.2.2 (Int.toNat (List.getD p0.2 (Int.toNat (List.getD p1 (Int.toNat y2.1) (0 : Int))) ((0 : Int), ((0 : Int), ((0 : Int), (0 : Int))))).2.1) (0 : Int)) > (IntKind.i64.wrap ((List.getD y2.2.2 (Int.toNat (List.getD p0.2 (Int.toNat (List.getD p1 (Int.toNat y2.1) (0 : Int))) ((0 : Int), ((0 : Int), ((0 : Int), (0 : Int))))).1) (0 : Int)) + (List.getD p0.2 (Int.toNat (List.getD p1 (Int.toNat y2.1) (0 : Int))) ((0 : Int), ((0 : Int), ((0 : Int), (0 : Int))))).2.2.2)))) = true) → ((List.getD p0.2 (Int.toNat (List.getD p1 (Int.toNat y2.1) (0 : Int))) ((0 : Int), ((0 : Int), ((0 : Int), (0 : Int))))).1 < (((List.length y2.2.2) : Nat) : Int)))),
    (((decide (y2.1 < (((List.length p1) : Nat) : Int))) = true) → (((decide ((List.getD y2.2.2 (Int.toNat (List.getD p0.2 (Int.toNat (List.getD p1 (Int.toNat y2.1) (0 : Int))) ((0 : Int), ((0 : Int), ((0 : Int), (0 : Int))))).2.1) (0 : Int)) > (IntKind.i64.wrap ((List.getD y2.2.2 (Int.toNat (List.getD p0.2 (Int.toNat (List.getD p1 (Int.toNat y2.1) (0 : Int))) ((0 : Int), ((0 : Int), ((0 : Int), (0 : Int))))).1) (0 : Int)) + (List.getD p0.2 (Int.toNat (List.getD p1 (Int.toNat y2.1) (0 : Int))) ((0 : Int), ((0 : Int), ((0 : Int), (0 : Int))))).2.2.2)))) = true) → ((0 : Int) ≤ (List.getD p0.2 (Int.toNat (List.getD p1 (Int.toNat y2.1) (0 : Int))) ((0 : Int), ((0 : Int), ((0 : Int), (0 : Int))))).2.1))),
    (((decide (y2.1 < (((List.length p1) : Nat) : Int))) = true) → (((decide ((List.getD y2.2.2 (Int.toNat (List.getD p0.2 (Int.toNat (List.getD p1 (Int.toNat y2.1) (0 : Int))) ((0 : Int), ((0 : Int), ((0 : Int), (0 : Int))))).2.1) (0 : Int)) > (IntKind.i64.wrap ((List.getD y2.2.2 (Int.toNat (List.getD p0.2 (Int.toNat (List.getD p1 (Int.toNat y2.1) (0 : Int))) ((0 : Int), ((0 : Int), ((0 : Int), (0 : Int))))).1) (0 : Int)) + (List.getD p0.2 (Int.toNat (List.getD p1 (Int.toNat y2.1) (0 : Int))) ((0 : Int), ((0 : Int), ((0 : Int), (0 : Int))))).2.2.2)))) = true) → ((List.getD p0.2 (Int.toNat (List.getD p1 (Int.toNat y2.1) (0 : Int))) ((0 : Int), ((0 : Int), ((0 : Int), (0 : Int))))).2.1 < (((List.length y2.2.2) : Nat) : Int)))),
    (((decide (y2.1 < (((List.length p1) : Nat) : Int))) = true) → (((decide ((List.getD y2.2.2 (Int.toNat (List.getD p0.2 (Int.toNat (List.getD p1 (Int.toNat y2.1) (0 : Int))) ((0 : Int), ((0 : Int), ((0 : Int), (0 : Int))))).2.1) (0 : Int)) > (IntKind.i64.wrap ((List.getD y2.2.2 (Int.toNat (List.getD p0.2 (Int.toNat (List.getD p1 (Int.toNat y2.1) (0 : Int))) ((0 : Int), ((0 : Int), ((0 : Int), (0 : Int))))).1) (0 : Int)) + (List.getD p0.2 (Int.toNat (List.getD p1 (Int.toNat y2.1) (0 : Int))) ((0 : Int), ((0 : Int), ((0 : Int), (0 : Int))))).2.2.2)))) = true) → ((List.getD p0.2 (Int.toNat (List.getD p1 (Int.toNat y2.1) (0 : Int))) ((0 : Int), ((0 : Int), ((0 : Int), (0 : Int))))).1 < (((List.length (List.set y2.2.2 (Int.toNat (List.getD p0.2 (Int.toNat (List.getD p1 (Int.toNat y2.1) (0 : Int))) ((0 : Int), ((0 : Int), ((0 : Int), (0 : Int))))).2.1) (IntKind.i64.wrap ((List.getD y2.2.2 (Int.toNat (List.getD p0.2 (Int.toNat (List.getD p1 (Int.toNat y2.1) (0 : Int))) ((0 : Int), ((0 : Int), ((0 : Int), (0 : Int))))).1) (0 : Int)) + (List.getD p0.2 (Int.toNat (List.getD p1 (Int.toNat y2.1) (0 : Int))) ((0 : Int), ((0 : Int), ((0 : Int), (0 : Int))))).2.2.2)))) : Nat) : Int)))),
    (((decide (y2.1 < (((List.length p1) : Nat) : Int))) = true) → (((decide ((List.getD y2.2.2 (Int.toNat (List.getD p0.2 (Int.toNat (List.getD p1 (Int.toNat y2.1) (0 : Int))) ((0 : Int), ((0 : Int), ((0 : Int), (0 : Int))))).2.1) (0 : Int)) > (IntKind.i64.wrap ((List.getD y2.2.2 (Int.toNat (List.getD p0.2 (Int.toNat (List.getD p1 (Int.toNat y2.1) (0 : Int))) ((0 : Int), ((0 : Int), ((0 : Int), (0 : Int))))).1) (0 : Int)) + (List.getD p0.2 (Int.toNat (List.getD p1 (Int.toNat y2.1) (0 : Int))) ((0 : Int), ((0 : Int), ((0 : Int), (0 : Int))))).2.2.2)))) = true) → ((List.getD p0.2 (Int.toNat (List.getD p1 (Int.toNat y2.1) (0 : Int))) ((0 : Int), ((0 : Int), ((0 : Int), (0 : Int))))).2.1 < (((List.length (List.set y2.2.2 (Int.toNat (List.getD p0.2 (Int.toNat (List.getD p1 (Int.toNat y2.1) (0 : Int))) ((0 : Int), ((0 : Int), ((0 : Int), (0 : Int))))).2.1) (IntKind.i64.wrap ((List.getD y2.2.2 (Int.toNat (List.getD p0.2 (Int.toNat (List.getD p1 (Int.toNat y2.1) (0 : Int))) ((0 : Int), ((0 : Int), ((0 : Int), (0 : Int))))).1) (0 : Int)) + (List.getD p0.2 (Int.toNat (List.getD p1 (Int.toNat y2.1) (0 : Int))) ((0 : Int), ((0 : Int), ((0 : Int), (0 : Int))))).2.2.2)))) : Nat) : Int)))),
    (((decide (y2.1 < (((List.length p1) : Nat) : Int))) = true) → (((decide ((List.getD y2.2.2 (Int.toNat (List.getD p0.2 (Int.toNat (List.getD p1 (Int.toNat y2.1) (0 : Int))) ((0 : Int), ((0 : Int), ((0 : Int), (0 : Int))))).2.1) (0 : Int)) > (IntKind.i64.wrap ((List.getD y2.2.2 (Int.toNat (List.getD p0.2 (Int.toNat (List.getD p1 (Int.toNat y2.1) (0 : Int))) ((0 : Int), ((0 : Int), ((0 : Int), (0 : Int))))).1) (0 : Int)) + (List.getD p0.2 (Int.toNat (List.getD p1 (Int.toNat y2.1) (0 : Int))) ((0 : Int), ((0 : Int), ((0 : Int), (0 : Int))))).2.2.2)))) = true) → (((decide ((List.getD (List.set y2.2.2 (Int.toNat (List.getD p0.2 (Int.toNat (List.getD p1 (Int.toNat y2.1) (0 : Int))) ((0 : Int), ((0 : Int), ((0 : Int), (0 : Int))))).2.1) (IntKind.i64.wrap ((List.getD y2.2.2 (Int.toNat (List.getD p0.2 (Int.toNat (List.getD p1 (Int.toNat y2.1) (0 : Int))) ((0 : Int), ((0 : Int), ((0 : Int), (0 : Int))))).1) (0 : Int)) + (List.getD p0.2 (Int.toNat (List.getD p1 (Int.toNat y2.1) (0 : Int))) ((0 : Int), ((0 : Int), ((0 : Int), (0 : Int))))).2.2.2))) (Int.toNat (List.getD p0.2 (Int.toNat (List.getD p1 (Int.toNat y2.1) (0 : Int))) ((0 : Int), ((0 : Int), ((0 : Int), (0 : Int))))).1) (0 : Int)) > (IntKind.i64.wrap ((List.getD (List.set y2.2.2 (Int.toNat (List.getD p0.2 (Int.toNat (List.getD p1 (Int.toNat y2.1) (0 : Int))) ((0 : Int), ((0 : Int), ((0 : Int), (0 : Int))))).2.1) (IntKind.i64.wrap ((List.getD y2.2.2 (Int.toNat (List.getD p0.2 (Int.toNat (List.getD p1 (Int.toNat y2.1) (0 : Int))) ((0 : Int), ((0 : Int), ((0 : Int), (0 : Int))))).1) (0 : Int)) + (List.getD p0.2 (Int.toNat (List.getD p1 (Int.toNat y2.1) (0 : Int))) ((0 : Int), ((0 : Int), ((0 : Int), (0 : Int))))).2.2.2))) (Int.toNat (List.getD p0.2 (Int.toNat (List.getD p1 (Int.toNat y2.1) (0 : Int))) ((0 : Int), ((0 : Int), ((0 : Int), (0 : Int))))).2.1) (0 : Int)) - (List.getD p0.2 (Int.toNat (List.getD p1 (Int.toNat y2.1) (0 : Int))) ((0 : Int), ((0 : Int), ((0 : Int), (0 : Int))))).2.2.1)))) = true) → ((0 : Int) ≤ (List.getD p0.2 (Int.toNat (List.getD p1 (Int.toNat y2.1) (0 : Int))) ((0 : Int), ((0 : Int), ((0 : Int), (0 : Int))))).2.1)))),
    (((decide (y2.1 < (((List.length p1) : Nat) : Int))) = true) → (((decide ((List.getD y2.2.2 (Int.toNat (List.getD p0.2 (Int.toNat (List.getD p1 (Int.toNat y2.1) (0 : Int))) ((0 : Int), ((0 : Int), ((0 : Int), (0 : Int))))).2.1) (0 : Int)) > (IntKind.i64.wrap ((List.getD y2.2.2 (Int.toNat (List.getD p0.2 (Int.toNat (List.getD p1 (Int.toNat y2.1) (0 : Int))) ((0 : Int), ((0 : Int), ((0 : Int), (0 : Int))))).1) (0 : Int)) + (List.getD p0.2 (Int.toNat (List.getD p1 (Int.toNat y2.1) (0 : Int))) ((0 : Int), ((0 : Int), ((0 : Int), (0 : Int))))).2.2.2)))) = true) → (((decide ((List.getD (List.set y2.2.2 (Int.toNat (List.getD p0.2 (Int.toNat (List.getD p1 (Int.toNat y2.1) (0 : Int))) ((0 : Int), ((0 : Int), ((0 : Int), (0 : Int))))).2.1) (IntKind.i64.wrap ((List.getD y2.2.2 (Int.toNat (List.getD p0.2 (Int.toNat (List.getD p1 (Int.toNat y2.1) (0 : Int))) ((0 : Int), ((0 : Int), ((0 : Int), (0 : Int))))).1) (0 : Int)) + (List.getD p0.2 (Int.toNat (List.getD p1 (Int.toNat y2.1) (0 : Int))) ((0 : Int), ((0 : Int), ((0 : Int), (0 : Int))))).2.2.2))) (Int.toNat (List.getD p0.2 (Int.toNat (List.getD p1 (Int.toNat y2.1) (0 : Int))) ((0 : Int), ((0 : Int), ((0 : Int), (0 : Int))))).1) (0 : Int)) > (IntKind.i64.wrap ((List.getD (List.set y2.2.2 (Int.toNat (List.getD p0.2 (Int.toNat (List.getD p1 (Int.toNat y2.1) (0 : Int))) ((0 : Int), ((0 : Int), ((0 : Int), (0 : Int))))).2.1) (IntKind.i64.wrap ((List.getD y2.2.2 (Int.toNat (List.getD p0.2 (Int.toNat (List.getD p1 (Int.toNat y2.1) (0 : Int))) ((0 : Int), ((0 : Int), ((0 : Int), (0 : Int))))).1) (0 : Int)) + (List.getD p0.2 (Int.toNat (List.getD p1 (Int.toNat y2.1) (0 : Int))) ((0 : Int), ((0 : Int), ((0 : Int), (0 : Int))))).2.2.2))) (Int.toNat (List.getD p0.2 (Int.toNat (List.getD p1 (Int.toNat y2.1) (0 : Int))) ((0 : Int), ((0 : Int), ((0 : Int), (0 : Int))))).2.1) (0 : Int)) - (List.getD p0.2 (Int.toNat (List.getD p1 (Int.toNat y2.1) (0 : Int))) ((0 : Int), ((0 : Int), ((0 : Int), (0 : Int))))).2.2.1)))) = true) → ((List.getD p0.2 (Int.toNat (List.getD p1 (Int.toNat y2.1) (0 : Int))) ((0 : Int), ((0 : Int), ((0 : Int), (0 : Int))))).2.1 < (((List.length (List.set y2.2.2 (Int.toNat (List.getD p0.2 (Int.toNat (List.getD p1 (Int.toNat y2.1) (0 : Int))) ((0 : Int), ((0 : Int), ((0 : Int), (0 : Int))))).2.1) (IntKind.i64.wrap ((List.getD y2.2.2 (Int.toNat (List.getD p0.2 (Int.toNat (List.getD p1 (Int.toNat y2.1) (0 : Int))) ((0 : Int), ((0 : Int), ((0 : Int), (0 : Int))))).1) (0 : Int)) + (List.getD p0.2 (Int.toNat (List.getD p1 (Int.toNat y2.1) (0 : Int))) ((0 : Int), ((0 : Int), ((0 : Int), (0 : Int))))).2.2.2)))) : Nat) : Int))))),
    (((decide (y2.1 < (((List.length p1) : Nat) : Int))) = true) → (((decide ((List.getD y2.2.2 (Int.toNat (List.getD p0.2 (Int.toNat (List.getD p1 (Int.toNat y2.1) (0 : Int))) ((0 : Int), ((0 : Int), ((0 : Int), (0 : Int))))).2.1) (0 : Int)) > (IntKind.i64.wrap ((List.getD y2.2.2 (Int.toNat (List.getD p0.2 (Int.toNat (List.getD p1 (Int.toNat y2.1) (0 : Int))) ((0 : Int), ((0 : Int), ((0 : Int), (0 : Int))))).1) (0 : Int)) + (List.getD p0.2 (Int.toNat (List.getD p1 (Int.toNat y2.1) (0 : Int))) ((0 : Int), ((0 : Int), ((0 : Int), (0 : Int))))).2.2.2)))) = true) → (((decide ((List.getD (List.set y2.2.2 (Int.toNat (List.getD p0.2 (Int.toNat (List.getD p1 (Int.toNat y2.1) (0 : Int))) ((0 : Int), ((0 : Int), ((0 : Int), (0 : Int))))).2.1) (IntKind.i64.wrap ((List.getD y2.2.2 (Int.toNat (List.getD p0.2 (Int.toNat (List.getD p1 (Int.toNat y2.1) (0 : Int))) ((0 : Int), ((0 : Int), ((0 : Int), (0 : Int))))).1) (0 : Int)) + (List.getD p0.2 (Int.toNat (List.getD p1 (Int.toNat y2.1) (0 : Int))) ((0 : Int), ((0 : Int), ((0 : Int), (0 : Int))))).2.2.2))) (Int.toNat (List.getD p0.2 (Int.toNat (List.getD p1 (Int.toNat y2.1) (0 : Int))) ((0 : Int), ((0 : Int), ((0 : Int), (0 : Int))))).1) (0 : Int)) > (IntKind.i64.wrap ((List.getD (List.set y2.2.2 (Int.toNat (List.getD p0.2 (Int.toNat (List.getD p1 (Int.toNat y2.1) (0 : Int))) ((0 : Int), ((0 : Int), ((0 : Int), (0 : Int))))).2.1) (IntKind.i64.wrap ((List.getD y2.2.2 (Int.toNat (List.getD p0.2 (Int.toNat (List.getD p1 (Int.toNat y2.1) (0 : Int))) ((0 : Int), ((0 : Int), ((0 : Int), (0 : Int))))).1) (0 : Int)) + (List.getD p0.2 (Int.toNat (List.getD p1 (Int.toNat y2.1) (0 : Int))) ((0 : Int), ((0 : Int), ((0 : Int), (0 : Int))))).2.2.2))) (Int.toNat (List.getD p0.2 (Int.toNat (List.getD p1 (Int.toNat y2.1) (0 : Int))) ((0 : Int), ((0 : Int), ((0 : Int), (0 : Int))))).2.1) (0 : Int)) - (List.getD p0.2 (Int.toNat (List.getD p1 (Int.toNat y2.1) (0 : Int))) ((0 : Int), ((0 : Int), ((0 : Int), (0 : Int))))).2.2.1)))) = true) → ((0 : Int) ≤ (List.getD p0.2 (Int.toNat (List.getD p1 (Int.toNat y2.1) (0 : Int))) ((0 : Int), ((0 : Int), ((0 : Int), (0 : Int))))).1)))),
    (((decide (y2.1 < (((List.length p1) : Nat) : Int))) = true) → (((decide ((List.getD y2.2.2 (Int.toNat (List.getD p0.2 (Int.toNat (List.getD p1 (Int.toNat y2.1) (0 : Int))) ((0 : Int), ((0 : Int), ((0 : Int), (0 : Int))))).2.1) (0 : Int)) > (IntKind.i64.wrap ((List.getD y2.2.2 (Int.toNat (List.getD p0.2 (Int.toNat (List.getD p1 (Int.toNat y2.1) (0 : Int))) ((0 : Int), ((0 : Int), ((0 : Int), (0 : Int))))).1) (0 : Int)) + (List.getD p0.2 (Int.toNat (List.getD p1 (Int.toNat y2.1) (0 : Int))) ((0 : Int), ((0 : Int), ((0 : Int), (0 : Int))))).2.2.2)))) = true) → (((decide ((List.getD (List.set y2.2.2 (Int.toNat (List.getD p0.2 (Int.toNat (List.getD p1 (Int.toNat y2.1) (0 : Int))) ((0 : Int), ((0 : Int), ((0 : Int), (0 : Int))))).2.1) (IntKind.i64.wrap ((List.getD y2.2.2 (Int.toNat (List.getD p0.2 (Int.toNat (List.getD p1 (Int.toNat y2.1) (0 : Int))) ((0 : Int), ((0 : Int), ((0 : Int), (0 : Int))))).1) (0 : Int)) + (List.getD p0.2 (Int.toNat (List.getD p1 (Int.toNat y2.1) (0 : Int))) ((0 : Int), ((0 : Int), ((0 : Int), (0 : Int))))).2.2.2))) (Int.toNat (List.getD p0.2 (Int.toNat (List.getD p1 (Int.toNat y2.1) (0 : Int))) ((0 : Int), ((0 : Int), ((0 : Int), (0 : Int))))).1) (0 : Int)) > (IntKind.i64.wrap ((List.getD (List.set y2.2.2 (Int.toNat (List.getD p0.2 (Int.toNat (List.getD p1 (Int.toNat y2.1) (0 : Int))) ((0 : Int), ((0 : Int), ((0 : Int), (0 : Int))))).2.1) (IntKind.i64.wrap ((List.getD y2.2.2 (Int.toNat (List.getD p0.2 (Int.toNat (List.getD p1 (Int.toNat y2.1) (0 : Int))) ((0 : Int), ((0 : Int), ((0 : Int), (0 : Int))))).1) (0 : Int)) + (List.getD p0.2 (Int.toNat (List.getD p1 (Int.toNat y2.1) (0 : Int))) ((0 : Int), ((0 : Int), ((0 : Int), (0 : Int))))).2.2.2))) (Int.toNat (List.getD p0.2 (Int.toNat (List.getD p1 (Int.toNat y2.1) (0 : Int))) ((0 : Int), ((0 : Int), ((0 : Int), (0 : Int))))).2.1) (0 : Int)) - (List.getD p0.2 (Int.toNat (List.getD p1 (Int.toNat y2.1) (0 : Int))) ((0 : Int), ((0 : Int), ((0 : Int), (0 : Int))))).2.2.1)))) = true) → ((List.getD p0.2 (Int.toNat (List.getD p1 (Int.toNat y2.1) (0 : Int))) ((0 : Int), ((0 : Int), ((0 : Int), (0 : Int))))).1 < (((List.length (List.set y2.2.2 (Int.toNat (List.getD p0.2 (Int.toNat (List.getD p1 (Int.toNat y2.1) (0 : Int))) ((0 : Int), ((0 : Int), ((0 : Int), (0 : Int))))).2.1) (IntKind.i64.wrap ((List.getD y2.2.2 (Int.toNat (List.getD p0.2 (Int.toNat (List.getD p1 (Int.toNat y2.1) (0 : Int))) ((0 : Int), ((0 : Int), ((0 : Int), (0 : Int))))).1) (0 : Int)) + (List.getD p0.2 (Int.toNat (List.getD p1 (Int.toNat y2.1) (0 : Int))) ((0 : Int), ((0 : Int), ((0 : Int), (0 : Int))))).2.2.2)))) : Nat) : Int))))),
    (((decide (y2.1 < (((List.length p1) : Nat) : Int))) = true) → (((decide ((List.getD y2.2.2 (Int.toNat (List.getD p0.2 (Int.toNat (List.getD p1 (Int.toNat y2.1) (0 : Int))) ((0 : Int), ((0 : Int), ((0 : Int), (0 : Int))))).2.1) (0 : Int)) > (IntKind.i64.wrap ((List.getD y2.2.2 (Int.toNat (List.getD p0.2 (Int.toNat (List.getD p1 (Int.toNat y2.1) (0 : Int))) ((0 : Int), ((0 : Int), ((0 : Int), (0 : Int))))).1) (0 : Int)) + (List.getD p0.2 (Int.toNat (List.getD p1 (Int.toNat y2.1) (0 : Int))) ((0 : Int), ((0 : Int), ((0 : Int), (0 : Int))))).2.2.2)))) = false) → ((0 : Int) ≤ (List.getD p0.2 (Int.toNat (List.getD p1 (Int.toNat y2.1) (0 : Int))) ((0 : Int), ((0 : Int), ((0 : Int), (0 : Int))))).1))),
    (((decide (y2.1 < (((List.length p1) : Nat) : Int))) = true) → (((decide ((List.getD y2.2.2 (Int.toNat (List.getD p0.2 (Int.toNat (List.getD p1 (Int.toNat y2.1) (0 : Int))) ((0 : Int), ((0 : Int), ((0 : Int), (0 : Int))))).2.1) (0 : Int)) > (IntKind.i64.wrap ((List.getD y2.2.2 (Int.toNat (List.getD p0.2 (Int.toNat (List.getD p1 (Int.toNat y2.1) (0 : Int))) ((0 : Int), ((0 : Int), ((0 : Int), (0 : Int))))).1) (0 : Int)) + (List.getD p0.2 (Int.toNat (List.getD p1 (Int.toNat y2.1) (0 : Int))) ((0 : Int), ((0 : Int), ((0 : Int), (0 : Int))))).2.2.2)))) = false) → ((List.getD p0.2 (Int.toNat (List.getD p1 (Int.toNat y2.1) (0 : Int))) ((0 : Int), ((0 : Int), ((0 : Int), (0 : Int))))).1 < (((List.length y2.2.2) : Nat) : Int)))),
    (((decide (y2.1 < (((List.length p1) : Nat) : Int))) = true) → (((decide ((List.getD y2.2.2 (Int.toNat (List.getD p0.2 (Int.toNat (List.getD p1 (Int.toNat y2.1) (0 : Int))) ((0 : Int), ((0 : Int), ((0 : Int), (0 : Int))))).2.1) (0 : Int)) > (IntKind.i64.wrap ((List.getD y2.2.2 (Int.toNat (List.getD p0.2 (Int.toNat (List.getD p1 (Int.toNat y2.1) (0 : Int))) ((0 : Int), ((0 : Int), ((0 : Int), (0 : Int))))).1) (0 : Int)) + (List.getD p0.2 (Int.toNat (List.getD p1 (Int.toNat y2.1) (0 : Int))) ((0 : Int), ((0 : Int), ((0 : Int), (0 : Int))))).2.2.2)))) = false) → ((0 : Int) ≤ (List.getD p0.2 (Int.toNat (List.getD p1 (Int.toNat y2.1) (0 : Int))) ((0 : Int), ((0 : Int), ((0 : Int), (0 : Int))))).2.1))),
    (((decide (y2.1 < (((List.length p1) : Nat) : Int))) = true) → (((decide ((List.getD y2.2.2 (Int.toNat (List.getD p0.2 (Int.toNat (List.getD p1 (Int.toNat y2.1) (0 : Int))) ((0 : Int), ((0 : Int), ((0 : Int), (0 : Int))))).2.1) (0 : Int)) > (IntKind.i64.wrap ((List.getD y2.2.2 (Int.toNat (List.getD p0.2 (Int.toNat (List.getD p1 (Int.toNat y2.1) (0 : Int))) ((0 : Int), ((0 : Int), ((0 : Int), (0 : Int))))).1) (0 : Int)) + (List.getD p0.2 (Int.toNat (List.getD p1 (Int.toNat y2.1) (0 : Int))) ((0 : Int), ((0 : Int), ((0 : Int), (0 : Int))))).2.2.2)))) = false) → ((List.getD p0.2 (Int.toNat (List.getD p1 (Int.toNat y2.1) (0 : Int))) ((0 : Int), ((0 : Int), ((0 : Int), (0 : Int))))).2.1 < (((List.length y2.2.2) : Nat) : Int)))),
    (((decide (y2.1 < (((List.length p1) : Nat) : Int))) = true) → (((decide ((List.getD y2.2.2 (Int.toNat (List.getD p0.2 (Int.toNat (List.getD p1 (Int.toNat y2.1) (0 : Int))) ((0 : Int), ((0 : Int), ((0 : Int), (0 : Int))))).2.1) (0 : Int)) > (IntKind.i64.wrap ((List.getD y2.2.2 (Int.toNat (List.getD p0.2 (Int.toNat (List.getD p1 (Int.toNat y2.1) (0 : Int))) ((0 : Int), ((0 : Int), ((0 : Int), (0 : Int))))).1) (0 : Int)) + (List.getD p0.2 (Int.toNat (List.getD p1 (Int.toNat y2.1) (0 : Int))) ((0 : Int), ((0 : Int), ((0 : Int), (0 : Int))))).2.2.2)))) = false) → (((decide ((List.getD y2.2.2 (Int.toNat (List.getD p0.2 (Int.toNat (List.getD p1 (Int.toNat y2.1) (0 : Int))) ((0 : Int), ((0 : Int), ((0 : Int), (0 : Int))))).1) (0 : Int)) > (IntKind.i64.wrap ((List.getD y2.2.2 (Int.toNat (List.getD p0.2 (Int.toNat (List.getD p1 (Int.toNat y2.1) (0 : Int))) ((0 : Int), ((0 : Int), ((0 : Int), (0 : Int))))).2.1) (0 : Int)) - (List.getD p0.2 (Int.toNat (List.getD p1 (Int.toNat y2.1) (0 : Int))) ((0 : Int), ((0 : Int), ((0 : Int), (0 : Int))))).2.2.1)))) = true) → ((0 : Int) ≤ (List.getD p0.2 (Int.toNat (List.getD p1 (Int.toNat y2.1) (0 : Int))) ((0 : Int), ((0 : Int), ((0 : Int), (0 : Int))))).2.1)))),
    (((decide (y2.1 < (((List.length p1) : Nat) : Int))) = true) → (((decide ((List.getD y2.2.2 (Int.toNat (List.getD p0.2 (Int.toNat (List.getD p1 (Int.toNat y2.1) (0 : Int))) ((0 : Int), ((0 : Int), ((0 : Int), (0 : Int))))).2.1) (0 : Int)) > (IntKind.i64.wrap ((List.getD y2.2.2 (Int.toNat (List.getD p0.2 (Int.toNat (List.getD p1 (Int.toNat y2.1) (0 : Int))) ((0 : Int), ((0 : Int), ((0 : Int), (0 : Int))))).1) (0 : Int)) + (List.getD p0.2 (Int.toNat (List.getD p1 (Int.toNat y2.1) (0 : Int))) ((0 : Int), ((0 : Int), ((0 : Int), (0 : Int))))).2.2.2)))) = false) → (((decide ((List.getD y2.2.2 (Int.toNat (List.getD p0.2 (Int.toNat (List.getD p1 (Int.toNat y2.1) (0 : Int))) ((0 : Int), ((0 : Int), ((0 : Int), (0 : Int))))).1) (0 : Int)) > (IntKind.i64.wrap ((List.getD y2.2.2 (Int.toNat (List.getD p0.2 (Int.toNat (List.getD p1 (Int.toNat y2.1) (0 : Int))) ((0 : Int), ((0 : Int), ((0 : Int), (0 : Int))))).2.1) (0 : Int)) - (List.getD p0.2 (Int.toNat (List.getD p1 (Int.toNat y2.1) (0 : Int))) ((0 : Int), ((0 : Int), ((0 : Int), (0 : Int))))).2.2.1)))) = true) → ((List.getD p0.2 (Int.toNat (List.getD p1 (Int.toNat y2.1) (0 : Int))) ((0 : Int), ((0 : Int), ((0 : Int), (0 : Int))))).2.1 < (((List.length y2.2.2) : Nat) : Int))))),
    (((decide (y2.1 < (((List.length p1) : Nat) : Int))) = true) → (((decide ((List.getD y2.2.2 (Int.toNat (List.getD p0.2 (Int.toNat (List.getD p1 (Int.toNat y2.1) (0 : Int))) ((0 : Int), ((0 : Int), ((0 : Int), (0 : Int))))).2.1) (0 : Int)) > (IntKind.i64.wrap ((List.getD y2.2.2 (Int.toNat (List.getD p0.2 (Int.toNat (List.getD p1 (Int.toNat y2.1) (0 : Int))) ((0 : Int), ((0 : Int), ((0 : Int), (0 : Int))))).1) (0 : Int)) + (List.getD p0.2 (Int.toNat (List.getD p1 (Int.toNat y2.1) (0 : Int))) ((0 : Int), ((0 : Int), ((0 : Int), (0 : Int))))).2.2.2)))) = false) → (((decide ((List.getD y2.2.2 (Int.toNat (List.getD p0.2 (Int.toNat (List.getD p1 (Int.toNat y2.1) (0 : Int))) ((0 : Int), ((0 : Int), ((0 : Int), (0 : Int))))).1) (0 : Int)) > (IntKind.i64.wrap ((List.getD y2.2.2 (Int.toNat (List.getD p0.2 (Int.toNat (List.getD p1 (Int.toNat y2.1) (0 : Int))) ((0 : Int), ((0 : Int), ((0 : Int), (0 : Int))))).2.1) (0 : Int)) - (List.getD p0.2 (Int.toNat (List.getD p1 (Int.toNat y2.1) (0 : Int))) ((0 : Int), ((0 : Int), ((0 : Int), (0 : Int))))).2.2.1)))) = true) → ((0 : Int) ≤ (List.getD p0.2 (Int.toNat (List.getD p1 (Int.toNat y2.1) (0 : Int))) ((0 : Int), ((0 : Int), ((0 : Int), (0 : Int))))).1)))),
    (((decide (y2.1 < (((List.length p1) : Nat) : Int))) = true) → (((decide ((List.getD y2.2.2 (Int.toNat (List.getD p0.2 (Int.toNat (List.getD p1 (Int.toNat y2.1) (0 : Int))) ((0 : Int), ((0 : Int), ((0 : Int), (0 : Int))))).2.1) (0 : Int)) > (IntKind.i64.wrap ((List.getD y2.2.2 (Int.toNat (List.getD p0.2 (Int.toNat (List.getD p1 (Int.toNat y2.1) (0 : Int))) ((0 : Int), ((0 : Int), ((0 : Int), (0 : Int))))).1) (0 : Int)) + (List.getD p0.2 (Int.toNat (List.getD p1 (Int.toNat y2.1) (0 : Int))) ((0 : Int), ((0 : Int), ((0 : Int), (0 : Int))))).2.2.2)))) = false) → (((decide ((List.getD y2.2.2 (Int.toNat (List.getD p0.2 (Int.toNat (List.getD p1 (Int.toNat y2.1) (0 : Int))) ((0 : Int), ((0 : Int), ((0 : Int), (0 : Int))))).1) (0 : Int)) > (IntKind.i64.wrap ((List.getD y2.2.2 (Int.toNat (List.getD p0.2 (Int.toNat (List.getD p1 (Int.toNat y2.1) (0 : Int))) ((0 : Int), ((0 : Int), ((0 : Int), (0 : Int))))).2.1) (0 : Int)) - (List.getD p0.2 (Int.toNat (List.getD p1 (Int.toNat y2.1) (0 : Int))) ((0 : Int), ((0 : Int), ((0 : Int), (0 : Int))))).2.2.1)))) = true) → ((List.getD p0.2 (Int.toNat (List.getD p1 (Int.toNat y2.1) (0 : Int))) ((0 : Int), ((0 : Int), ((0 : Int), (0 : Int))))).1 < (((List.length y2.2.2) : Nat) : Int)))))]
def st_ref05_lowered_1 (p0 : (Int × (List (Int × (Int × (Int × Int)))))) (p1 : (List Int)) (p2 : (List Int)) (y0 : (Int × (List Int))) : (Int × (List Int)) ⊕ ((List Int) × Bool) :=
  (cond (decide (y0.1 ≤ p0.1)) (lpv (Sum.inr ([], false)) (st_ref05_lowered_0 p0 p1 p2 y0) ((0 : Int), (false, y0.2)))
    (Sum.inr (([] : List Int), false)))
abbrev sp_ref05_lowered_1 (p0 : (Int × (List (Int × (Int × (Int × Int)))))) (p1 : (List Int)) (p2 : (List Int)) (y0 : (Int × (List Int))) : List Prop := [(((decide (y0.1 ≤ p0.1)) = true) → (OkL (st_ref05_lowered_0 p0 p1 p2 y0) (sp_ref05_lowered_0 p0 p1 p2 y0) ((0 : Int), (false, y0.2))))]
def s_ref05_lowered (p0 : (Int × (List (Int × (Int × (Int × Int)))))) (p1 : (List Int)) (p2 : (List Int)) : ((List Int) × Bool) :=
  (lpv ([], false) (st_ref05_lowered_1 p0 p1 p2) ((0 : Int), p2))
abbrev pre_ref05_lowered (p0 : (Int × (List (Int × (Int × (Int × Int)))))) (p1 : (List Int)) (p2 : (List Int)) : List Prop := [((List.length p2) ≤ 1000000),
    (OkL (st_ref05_lowered_1 p0 p1 p2) (sp_ref05_lowered_1 p0 p1 p2) ((0 : Int), p2))]
set_option maxHeartbeats 4000000 in
theorem d_ref05_lowered (p0 : (Int × (List (Int × (Int × (Int × Int)))))) (p1 : (List Int)) (p2 : (List Int)) (K : ((List Int) × Bool) → Prop) (hp : ∀ p ∈ pre_ref05_lowered p0 p1 p2, p) (h : K (s_ref05_lowered p0 p1 p2)) : w_ref05_lowered p0 p1 p2 K := by
  unfold w_ref05_lowered
  unfold s_ref05_lowered at h
  obtain ⟨hp0, hp1, _⟩ := conj_of hp
  exact ⟨(hp0), (loop_gen (hp1) h (fun y0 k0 hp h => by
  unfold st_ref05_lowered_1 at h; obtain ⟨hp0, _⟩ := conj_of hp
  exact (br' h (fun e1 h => (loop_gen (hp0 e1) h (fun y2 k2 hp h => by
  unfold st_ref05_lowered_0 at h; obtain ⟨hp0, hp1, hp2, hp3, hp4, hp5, hp6, hp7, hp8, hp9, hp10, hp11, hp12, hp13, hp14, hp15, hp16, hp17, hp18, hp19, hp20, hp21, hp22, hp23, hp24, hp25, _⟩ := conj_of hp
  exact (br' h (fun e3 h => ⟨(hp0 e3), (hp1 e3), (hp2 e3), (hp3 e3), (hp4 e3), (hp5 e3), (hp6 e3), (hp7 e3), (br' h (fun e4 h => ⟨(hp8 e3 e4), (hp9 e3 e4), (hp10 e3 e4), (hp11 e3 e4), (hp8 e3 e4), (hp12 e3 e4), (hp10 e3 e4), (hp13 e3 e4), (br' h (fun e5 h => ⟨(hp14 e3 e4 e5), (hp15 e3 e4 e5), (hp16 e3 e4 e5), (hp17 e3 e4 e5), h⟩)
    (fun e5 h => h))⟩)
    (fun e4 h => ⟨(hp18 e3 e4), (hp19 e3 e4), (hp20 e3 e4), (hp21 e3 e4), (br' h (fun e6 h => ⟨(hp22 e3 e4 e6), (hp23 e3 e4 e6), (hp24 e3 e4 e6), (hp25 e3 e4 e6), h⟩)
    (fun e6 h => h))⟩))⟩)
    (fun e3 h => (br' h (fun e7 h => h)
    (fun e7 h => h)))))))
    (fun e1 h => h))))⟩
/-- The ties with some indexes. -/
def v_pick (l : List (Int × Int × Int × Int)) (set : List Int) : List (Int × Int × Int × Int) := set.map fun i => l.getD i.toNat (0, 0, 0, 0)
structure v_setok (n : Int) (l : List (Int × Int × Int × Int)) (set : List Int) : Prop where
  nok : v_nokI n l
  few : set.length ≤ 12
  idx : ∀ i ∈ set, 0 ≤ i ∧ i < l.length
theorem v_setok.pick {n : Int} {l : List (Int × Int × Int × Int)} {set : List Int} (h : v_setok n l set) : v_nokI n (v_pick l set) := by
  refine ⟨⟨h.nok.1.n1, h.nok.1.n8, by simpa [v_pick] using h.few, fun t ht => ?_⟩, h.nok.2⟩
  obtain ⟨i, hi, rfl⟩ := List.mem_map.1 ht
  have := h.idx i hi
  exact h.nok.1.all _ (getD_mem' _ (by omega))
theorem v_rx_all {n : Nat} {v : List Int} {ch : Bool} {b : Int × Int × Int} (hb : v_bok n b) : v_rx (v, List.replicate n true, ch) b = (cond (decide (v.getD b.2.1.toNat 0 + b.2.2 < v.getD b.1.toNat 0)) (v.set b.1.toNat (v.getD b.2.1.toNat 0 + b.2.2), List.replicate n true, true) (v, List.replicate n true, ch)) := by
  obtain ⟨b1, b2, _⟩ := hb
  unfold v_rx
  have e1 : (List.replicate n true).getD b.2.1.toNat false = true := by rw [List.getD_eq_getElem?_getD, List.getElem?_replicate, if_pos (by omega)]; rfl
  have e2 : (List.replicate n true).getD b.1.toNat false = true := by rw [List.getD_eq_getElem?_getD, List.getElem?_replicate, if_pos (by omega)]; rfl
  have e3 : (List.replicate n true).set b.1.toNat true = List.replicate n true := by
    refine List.ext_getElem? fun i => ?_
    rw [List.getElem?_set, List.getElem?_replicate, List.length_replicate]
    by_cases hi : b.1.toNat = i
    · rw [if_pos hi, if_pos (by omega), if_pos (by omega)]
    · rw [if_neg hi]
  simp only [e1, e2, e3, Bool.not_true, Bool.false_or, Bool.true_and]
/-- What a round of the reference ends with. -/
def v_fin (i : Int) (s : List Int × List Bool × Bool) : (Int × List Int) ⊕ (List Int × Bool) := cond (!s.2.2) (Sum.inr (s.1, true)) (Sum.inl (IntKind.i64.wrap (i + 1), s.1))
theorem l_ref05_lowered_0 (p0 : Int × List (Int × Int × Int × Int)) (p1 p2 : List Int) (y0 : Int × List Int) (h : v_setok p0.1 p0.2 p1) {t0 : Nat} (ht0 : t0 ≤ 400) (v : List Int) (hv : v_bd p0.1.toNat t0 v (List.replicate p0.1.toNat true)) :
    OkL (st_ref05_lowered_0 p0 p1 p2 y0) (sp_ref05_lowered_0 p0 p1 p2 y0) (0, false, v) ∧ lpv (Sum.inr ([], false)) (st_ref05_lowered_0 p0 p1 p2 y0) (0, false, v) = v_fin y0.1 (v_rds (v_bnd (v_pick p0.2 p1)) (v, List.replicate p0.1.toNat true)) := by
  have few := h.few
  refine list_is (fun i (t : Bool × List Int) => (i, t)) p1 0 (fun r t => r.length ≤ p1.length ∧ (∀ i ∈ r, 0 ≤ i ∧ i < (p0.2.length : Int)) ∧ v_bd p0.1.toNat (t0 + 2 * (p1.length - r.length)) t.2 (List.replicate p0.1.toNat true)) (fun r t => v_fin y0.1 ((v_bnd (v_pick p0.2 r)).foldl v_rx (t.2, List.replicate p0.1.toNat true, t.1))) (lenOk_le (n := 12) few (by decide)) ?_ ?_ (false, v) ⟨Nat.le_refl _, h.idx, by simpa using hv⟩
  · intro t _
    have hd : decide ((p1.length : Int) < (p1.length : Nat)) = false := decide_eq_false (by omega)
    refine ⟨by simp only [sp_ref05_lowered_0, List.forall_mem_cons, hd]; simp, ?_⟩
    simp only [st_ref05_lowered_0, hd, cond_false, v_pick, List.map_nil, v_bnd, List.foldl_nil, v_fin]
    cases t.1 <;> rfl
  · intro j t hj ⟨_, hi, hbd⟩
    have hd : decide ((j : Int) < (p1.length : Nat)) = true := decide_eq_true (by omega)
    have e1 : (p1.getD j 0 :: p1.drop (j + 1)).length = p1.length - j := by simp; omega
    have e2 : (p1.drop (j + 1)).length = p1.length - (j + 1) := by simp
    rw [e1] at hbd
    have hx := hi (p1.getD j 0) (by simp)
    have htie := h.nok.1.all _ (getD_mem' (0, 0, 0, 0) (show (p1.getD j 0).toNat < p0.2.length by omega))
    have e3 : v_pick p0.2 (p1.getD j 0 :: p1.drop (j + 1)) = p0.2.getD (p1.getD j 0).toNat (0, 0, 0, 0) :: v_pick p0.2 (p1.drop (j + 1)) := rfl
    rw [e2, e3]
    simp only [v_bnd, List.foldl_cons]
    generalize hT : p0.2.getD (p1.getD j 0).toNat (0, 0, 0, 0) = T at *
    obtain ⟨ch, v⟩ := t
    obtain ⟨t1, t2, _, t3, t4, _⟩ := htie
    have ok1 : v_bok p0.1.toNat (T.2.1, T.1, T.2.2.2) := ⟨t2, t1, t4⟩
    have ok2 : v_bok p0.1.toNat (T.1, T.2.1, 0 - T.2.2.1) := ⟨t1, t2, by simp only; omega⟩
    have b1 := v_rx_bd (s := (v, List.replicate p0.1.toNat true, ch)) hbd ok1
    have b2 := v_rx_bd b1 ok2
    have vl := hbd.vl
    rw [v_rx_all ok1] at b1 b2 ⊢
    simp only at b1 b2 vl ⊢
    have s1 := hbd.small T.1.toNat
    have s2 := hbd.small T.2.1.toNat
    simp only at s1 s2
    have w1 : IntKind.i64.wrap (v.getD T.1.toNat 0 + T.2.2.2) = v.getD T.1.toNat 0 + T.2.2.2 := wrap_id (by omega) (by omega)
    have w2 : ∀ u : List Int, (∀ i, -((t0 + 2 * (p1.length - (p1.length - j)) + 1 : Nat) * 1000000 : Int) ≤ u.getD i 0 ∧ u.getD i 0 ≤ (t0 + 2 * (p1.length - (p1.length - j)) + 1 : Nat) * 1000000) → IntKind.i64.wrap (u.getD T.2.1.toNat 0 - T.2.2.1) = u.getD T.2.1.toNat 0 - T.2.2.1 := fun u hu => by have := hu T.2.1.toNat; exact wrap_id (by omega) (by omega)
    have hgt : ∀ a b : Int, decide (a > b) = decide (b < a) := fun _ _ => rfl
    refine ⟨?_, .inl ?_⟩
    · simp only [sp_ref05_lowered_0, List.forall_mem_cons, Int.toNat_natCast, hT, List.length_set]
      and_intros
      all_goals first | (intros; omega) | (intro p hp; cases hp)
    · simp only [st_ref05_lowered_0, hd, cond_true, Int.toNat_natCast, hT, wrap_nat (show (j : Int) ≤ 9223372036854775806 by omega), w1, hgt]
      cases c1 : decide (v.getD T.1.toNat 0 + T.2.2.2 < v.getD T.2.1.toNat 0)
      · rw [c1] at b1 b2
        simp only [cond_false] at b1 b2 ⊢
        rw [w2 v b1.small]
        rw [v_rx_all ok2] at b2 ⊢
        simp only [show v.getD T.2.1.toNat 0 + (0 - T.2.2.1) = v.getD T.2.1.toNat 0 - T.2.2.1 by omega] at b2 ⊢
        cases c2 : decide (v.getD T.2.1.toNat 0 - T.2.2.1 < v.getD T.1.toNat 0) <;> rw [c2] at b2
        · exact ⟨_, rfl, ⟨by omega, fun i hi' => hi i (by simp [hi']), by rw [show t0 + 2 * (p1.length - (p1.length - (j + 1))) = t0 + 2 * (p1.length - (p1.length - j)) + 1 + 1 by omega]; exact b2⟩, rfl⟩
        · exact ⟨_, rfl, ⟨by omega, fun i hi' => hi i (by simp [hi']), by rw [show t0 + 2 * (p1.length - (p1.length - (j + 1))) = t0 + 2 * (p1.length - (p1.length - j)) + 1 + 1 by omega]; exact b2⟩, rfl⟩
      · rw [c1] at b1 b2
        simp only [cond_true] at b1 b2 ⊢
        generalize v.set T.2.1.toNat (v.getD T.1.toNat 0 + T.2.2.2) = u at *
        rw [w2 u b1.small]
        rw [v_rx_all ok2] at b2 ⊢
        simp only [show u.getD T.2.1.toNat 0 + (0 - T.2.2.1) = u.getD T.2.1.toNat 0 - T.2.2.1 by omega] at b2 ⊢
        cases c2 : decide (u.getD T.2.1.toNat 0 - T.2.2.1 < u.getD T.1.toNat 0) <;> rw [c2] at b2
        · exact ⟨_, rfl, ⟨by omega, fun i hi' => hi i (by simp [hi']), by rw [show t0 + 2 * (p1.length - (p1.length - (j + 1))) = t0 + 2 * (p1.length - (p1.length - j)) + 1 + 1 by omega]; exact b2⟩, rfl⟩
        · exact ⟨_, rfl, ⟨by omega, fun i hi' => hi i (by simp [hi']), by rw [show t0 + 2 * (p1.length - (p1.length - (j + 1))) = t0 + 2 * (p1.length - (p1.length - j)) + 1 + 1 by omega]; exact b2⟩, rfl⟩
/-- What values are told. -/
def v_told (r : List Int × Bool) : List Int × Bool := cond r.2 (r.1, true) ([], false)
theorem v_fold_all {n : Nat} : ∀ (bs : List (Int × Int × Int)) (v : List Int) (ch : Bool), (∀ b ∈ bs, v_bok n b) → (bs.foldl v_rx (v, List.replicate n true, ch)).2.1 = List.replicate n true
  | [], _, _, _ => rfl
  | b :: bs, v, ch, h => by
    rw [List.foldl_cons, v_rx_all (h b (by simp))]
    cases decide (v.getD b.2.1.toNat 0 + b.2.2 < v.getD b.1.toNat 0)
    · exact v_fold_all bs _ _ (fun c hc => h c (by simp [hc]))
    · exact v_fold_all bs _ _ (fun c hc => h c (by simp [hc]))
theorem l_ref05_lowered (p0 : Int × List (Int × Int × Int × Int)) (p1 p2 : List Int) (h : v_setok p0.1 p0.2 p1) (h2 : p2 = List.replicate p0.1.toNat 0) :
    OkL (st_ref05_lowered_1 p0 p1 p2) (sp_ref05_lowered_1 p0 p1 p2) (0, p2) ∧ lpv ([], false) (st_ref05_lowered_1 p0 p1 p2) (0, p2) = v_told (v_grt p0.1 (v_pick p0.2 p1)) := by
  have hp := h.pick
  have n8 := hp.1.n8
  have n0 := hp.2
  have hlen := hp.1.len
  have hbl := v_bnd_len (v_pick p0.2 p1)
  have hbk := v_bnd_ok hp.1.all
  have := for_is (dd := (([] : List Int), false)) (st := st_ref05_lowered_1 p0 p1 p2) (sp := sp_ref05_lowered_1 p0 p1 p2) (fun i (s : List Int) => (i, s)) 0 (p0.1.toNat + 1)
    (fun j s => v_bd p0.1.toNat (24 * j) s (List.replicate p0.1.toNat true)) (fun j s => cond (v_lowr (v_bnd (v_pick p0.2 p1)) (p0.1.toNat + 1 - j) (s, List.replicate p0.1.toNat true)).1 ((v_lowr (v_bnd (v_pick p0.2 p1)) (p0.1.toNat + 1 - j) (s, List.replicate p0.1.toNat true)).2.1, true) ([], false)) (by omega) (by omega) ?_ ?_ p2 ?_
  · refine ⟨this.1, this.2.trans ?_⟩
    unfold v_told v_grt v_lowl
    subst h2
    rw [List.length_replicate]; rfl
  · intro s _
    have hd : decide (((p0.1.toNat + 1 : Nat) : Int) ≤ p0.1) = false := decide_eq_false (by omega)
    refine ⟨by simp only [sp_ref05_lowered_1, List.forall_mem_cons, hd]; simp, ?_⟩
    simp only [st_ref05_lowered_1, hd, cond_false, Nat.sub_self, v_lowr]
  · intro j s _ hj hs
    have hd : decide ((j : Int) ≤ p0.1) = true := decide_eq_true (by omega)
    obtain ⟨g1, g2⟩ := l_ref05_lowered_0 p0 p1 p2 ((j : Int), s) h (t0 := 24 * j) (by omega) s hs
    have hr := v_rds_bd (s := (s, List.replicate p0.1.toNat true)) hs hbk
    have ha := v_fold_all (v_bnd (v_pick p0.2 p1)) s false hbk
    refine ⟨by simp only [sp_ref05_lowered_1, List.forall_mem_cons]; exact ⟨fun _ => g1, by simp⟩, ?_⟩
    simp only [st_ref05_lowered_1, hd, cond_true]
    rw [g2, show p0.1.toNat + 1 - j = p0.1.toNat + 1 - (j + 1) + 1 by omega, v_lowr]
    have ha' : (v_rds (v_bnd (v_pick p0.2 p1)) (s, List.replicate p0.1.toNat true)).2.1 = List.replicate p0.1.toNat true := ha
    rw [ha'] at hr ⊢
    simp only [v_fin, wrap_nat (show (j : Int) ≤ 9223372036854775806 by omega)]
    cases hc : (v_rds (v_bnd (v_pick p0.2 p1)) (s, List.replicate p0.1.toNat true)).2.2
    · exact .inr rfl
    · refine .inl ⟨_, rfl, ?_, rfl⟩
      rw [show 24 * (j + 1) = 24 * j + 24 by omega]
      exact ⟨hr.vl, hr.kl, fun i => by have := hr.small i; omega⟩
  · subst h2
    exact ⟨by simp, by simp, fun i => by simp [List.getD_eq_getElem?_getD, List.getElem?_replicate]; split <;> simp⟩
abbrev t_ref05_lowered (p0 : Int × List (Int × Int × Int × Int)) (p1 _ : List Int) : List Int × Bool := v_told (v_grt p0.1 (v_pick p0.2 p1))
abbrev qre_ref05_lowered (p0 : Int × List (Int × Int × Int × Int)) (p1 p2 : List Int) : List Prop := [v_setok p0.1 p0.2 p1, p2 = List.replicate p0.1.toNat 0]
theorem pp_ref05_lowered (p0 : Int × List (Int × Int × Int × Int)) (p1 p2 : List Int) (hq : ∀ p ∈ qre_ref05_lowered p0 p1 p2, p) : ∀ p ∈ pre_ref05_lowered p0 p1 p2, p := by
  obtain ⟨h1, h2, _⟩ := conj_of hq
  have n8 := h1.nok.1.n8
  simp only [pre_ref05_lowered, List.forall_mem_cons]
  exact ⟨by rw [h2, List.length_replicate]; omega, (l_ref05_lowered p0 p1 p2 h1 h2).1, by simp⟩
theorem tt_ref05_lowered (p0 : Int × List (Int × Int × Int × Int)) (p1 p2 : List Int) (hq : ∀ p ∈ qre_ref05_lowered p0 p1 p2, p) : s_ref05_lowered p0 p1 p2 = t_ref05_lowered p0 p1 p2 := by
  obtain ⟨h1, h2, _⟩ := conj_of hq
  exact (l_ref05_lowered p0 p1 p2 h1 h2).2

abbrev con_ref05_lowered : Con := ⟨P_ref05_lowered, R_ref05_lowered, fun x => qre_ref05_lowered x.1 x.2.1 x.2.2, fun x => t_ref05_lowered x.1 x.2.1 x.2.2⟩
theorem ok_ref05_lowered : ConOk Tryd.prog 109 con_ref05_lowered := ⟨k_ref05_lowered, fun x hx => ret_tf (ps := P_ref05_lowered) (rs := R_ref05_lowered) (x := x) (y := t_ref05_lowered x.1 x.2.1 x.2.2) e_ref05_lowered hC_ref05_lowered (tf_of (w_ref05_lowered_eq x.1 x.2.1 x.2.2 (fun z => z = t_ref05_lowered x.1 x.2.1 x.2.2)) (d_ref05_lowered x.1 x.2.1 x.2.2 (fun z => z = t_ref05_lowered x.1 x.2.1 x.2.2) (pp_ref05_lowered x.1 x.2.1 x.2.2 hx) (tt_ref05_lowered x.1 x.2.1 x.2.2 hx)))⟩
/- ref05_every -/
def C_ref05_every : Cons := []
theorem hC_ref05_every : ConsOk Tryd.prog C_ref05_every := ConsOk.nil
def w_ref05_every (p0 : (Int × (List (Int × (Int × (Int × Int)))))) (K : (List Int) → Prop) : Prop :=
 (∃ n0, (loopP (fun (y1 : (Int × (List Int))) k2 =>
    ((((decide (y1.1 < (((List.length p0.2) : Nat) : Int))) = true) →
    (((((List.length y1.2) + (List.length (y1.1 :: ([] : List Int)))) * 8) ≤ 140737488355328) ∧
      (k2 ((IntKind.i64.wrap (y1.1 + (1 : Int))), (y1.2 ++ (y1.1 :: ([] : List Int))))))) ∧
    (((decide (y1.1 < (((List.length p0.2) : Nat) : Int))) = false) →
    (K y1.2)))) n0 ((0 : Int), ([] : List Int))))
set_option maxHeartbeats 4000000 in
theorem w_ref05_every_eq (p0 : (Int × (List (Int × (Int × (Int × Int)))))) (K : (List Int) → Prop) : tfn F_ref05_every A_ref05_every C_ref05_every P_ref05_every R_ref05_every p0 K = w_ref05_every p0 K := by kernel_rfl
def st_ref05_every_0 (p0 : (Int × (List (Int × (Int × (Int × Int)))))) (y0 : (Int × (List Int))) : (Int × (List Int)) ⊕ (List Int) :=
  (cond (decide (y0.1 < (((List.length p0.2) : Nat) : Int))) (Sum.inl ((IntKind.i64.wrap (y0.1 + (1 : Int))), (y0.2 ++ (y0.1 :: ([] : List Int)))))
    (Sum.inr y0.2))
abbrev sp_ref05_every_0 (p0 : (Int × (List (Int × (Int × (Int × Int)))))) (y0 : (Int × (List Int))) : List Prop := [(((decide (y0.1 < (((List.length p0.2) : Nat) : Int))) = true) → ((((List.length y0.2) + (List.length (y0.1 :: ([] : List Int)))) * 8) ≤ 140737488355328))]
def s_ref05_every (p0 : (Int × (List (Int × (Int × (Int × Int)))))) : (List Int) :=
  (lpv [] (st_ref05_every_0 p0) ((0 : Int), ([] : List Int)))
abbrev pre_ref05_every (p0 : (Int × (List (Int × (Int × (Int × Int)))))) : List Prop := [(OkL (st_ref05_every_0 p0) (sp_ref05_every_0 p0) ((0 : Int), ([] : List Int)))]
set_option maxHeartbeats 4000000 in
theorem d_ref05_every (p0 : (Int × (List (Int × (Int × (Int × Int)))))) (K : (List Int) → Prop) (hp : ∀ p ∈ pre_ref05_every p0, p) (h : K (s_ref05_every p0)) : w_ref05_every p0 K := by
  unfold w_ref05_every
  unfold s_ref05_every at h
  obtain ⟨hp0, _⟩ := conj_of hp
  exact (loop_gen (hp0) h (fun y0 k0 hp h => by
  unfold st_ref05_every_0 at h; obtain ⟨hp0, _⟩ := conj_of hp
  exact (br' h (fun e1 h => ⟨(hp0 e1), h⟩)
    (fun e1 h => h))))
/-- The indexes of all ties. -/
def v_all (l : List (Int × Int × Int × Int)) : List Int := (List.range' 0 l.length).map fun (k : Nat) => (k : Int)
theorem v_pick_all (l : List (Int × Int × Int × Int)) : v_pick l (v_all l) = l := by
  refine List.ext_getElem? fun i => ?_
  unfold v_pick v_all
  rw [List.getElem?_map, List.getElem?_map]
  rcases Nat.lt_or_ge i l.length with h | h
  · rw [List.getElem?_range' h]
    simp [List.getD_eq_getElem?_getD, h]
  · rw [List.getElem?_eq_none (by simpa using h), List.getElem?_eq_none h]; rfl
theorem v_all_ok {n : Int} {l : List (Int × Int × Int × Int)} (h : v_nokI n l) : v_setok n l (v_all l) := by
  refine ⟨h, by simpa [v_all] using h.1.len, fun i hi => ?_⟩
  obtain ⟨k, hk, rfl⟩ := List.mem_map.1 hi
  rw [List.mem_range'_1] at hk
  omega
theorem l_ref05_every (p0 : Int × List (Int × Int × Int × Int)) (hl : p0.2.length ≤ 1000000) : OkL (st_ref05_every_0 p0) (sp_ref05_every_0 p0) (0, []) ∧ lpv [] (st_ref05_every_0 p0) (0, []) = v_all p0.2 := by
  refine forapp_is (fun i t => (i, t)) 0 p0.2.length (fun j => (j : Int)) id (Nat.zero_le _) hl ?_ ?_
  · intro t _
    have hd : decide ((p0.2.length : Int) < (p0.2.length : Nat)) = false := decide_eq_false (by omega)
    exact ⟨by simp only [sp_ref05_every_0, List.forall_mem_cons, hd]; simp, by simp only [st_ref05_every_0, hd, cond_false, id]⟩
  · intro j t _ hj ht
    have hd : decide ((j : Int) < (p0.2.length : Nat)) = true := decide_eq_true (by omega)
    exact ⟨by simp only [sp_ref05_every_0, List.forall_mem_cons, List.length_cons, List.length_nil]; exact ⟨fun _ => by omega, by simp⟩, by simp only [st_ref05_every_0, hd, cond_true, wrap_nat (show (j : Int) ≤ 9223372036854775806 by omega)]⟩
abbrev t_ref05_every (p0 : Int × List (Int × Int × Int × Int)) : List Int := v_all p0.2
abbrev qre_ref05_every (p0 : Int × List (Int × Int × Int × Int)) : List Prop := [p0.2.length ≤ 1000000]
theorem pp_ref05_every (p0 : Int × List (Int × Int × Int × Int)) (hq : ∀ p ∈ qre_ref05_every p0, p) : ∀ p ∈ pre_ref05_every p0, p := by
  simp only [pre_ref05_every, List.forall_mem_cons]
  exact ⟨(l_ref05_every p0 (conj_of hq).1).1, by simp⟩
theorem tt_ref05_every (p0 : Int × List (Int × Int × Int × Int)) (hq : ∀ p ∈ qre_ref05_every p0, p) : s_ref05_every p0 = t_ref05_every p0 := (l_ref05_every p0 (conj_of hq).1).2

abbrev con_ref05_every : Con := ⟨P_ref05_every, R_ref05_every, fun x => qre_ref05_every x, fun x => t_ref05_every x⟩
theorem ok_ref05_every : ConOk Tryd.prog 110 con_ref05_every := ⟨k_ref05_every, fun x hx => ret_tf (ps := P_ref05_every) (rs := R_ref05_every) (x := x) (y := t_ref05_every x) e_ref05_every hC_ref05_every (tf_of (w_ref05_every_eq x (fun z => z = t_ref05_every x)) (d_ref05_every x (fun z => z = t_ref05_every x) (pp_ref05_every x hx) (tt_ref05_every x hx)))⟩
/- ref05_Values -/
def C_ref05_Values : Cons := [(110, [], con_ref05_every), (109, [], con_ref05_lowered)]
theorem hC_ref05_Values : ConsOk Tryd.prog C_ref05_Values := ConsOk.cons ok_ref05_every <| ConsOk.cons ok_ref05_lowered <| ConsOk.nil
def w_ref05_Values (p0 : (Int × (List (Int × (Int × (Int × Int)))))) (K : ((List Int) × Bool) → Prop) : Prop :=
 (((List.length p0.2) ≤ 1000000) ∧
  (((0 : Int) ≤ p0.1) ∧
  ((((8 : Int) * p0.1) ≤ (281474976710656 : Int)) ∧
  ((p0.1 ≤ (9223372036854775807 : Int)) ∧
  ((v_setok p0.1 p0.2 (v_all p0.2)) ∧
  (((List.replicate (Int.toNat p0.1) (0 : Int)) = (List.replicate (Int.toNat p0.1) (0 : Int))) ∧
  (K (v_told (v_grt p0.1 (v_pick p0.2 (v_all p0.2)))))))))))
set_option maxHeartbeats 4000000 in
theorem w_ref05_Values_eq (p0 : (Int × (List (Int × (Int × (Int × Int)))))) (K : ((List Int) × Bool) → Prop) : tfn F_ref05_Values A_ref05_Values C_ref05_Values P_ref05_Values R_ref05_Values p0 K = w_ref05_Values p0 K := by kernel_rfl
def s_ref05_Values (p0 : (Int × (List (Int × (Int × (Int × Int)))))) : ((List Int) × Bool) :=
  (v_told (v_grt p0.1 (v_pick p0.2 (v_all p0.2))))
abbrev pre_ref05_Values (p0 : (Int × (List (Int × (Int × (Int × Int)))))) : List Prop := [((List.length p0.2) ≤ 1000000),
    ((0 : Int) ≤ p0.1),
    (((8 : Int) * p0.1) ≤ (281474976710656 : Int)),
    (p0.1 ≤ (9223372036854775807 : Int)),
    (v_setok p0.1 p0.2 (v_all p0.2))]
set_option maxHeartbeats 4000000 in
theorem d_ref05_Values (p0 : (Int × (List (Int × (Int × (Int × Int)))))) (K : ((List Int) × Bool) → Prop) (hp : ∀ p ∈ pre_ref05_Values p0, p) (h : K (s_ref05_Values p0)) : w_ref05_Values p0 K := by
  unfold w_ref05_Values
  unfold s_ref05_Values at h
  obtain ⟨hp0, hp1, hp2, hp3, hp4, _⟩ := conj_of hp
  exact ⟨(hp0), (hp1), (hp2), (hp3), (hp4), rfl, h⟩
abbrev t_ref05_Values (p0 : Int × List (Int × Int × Int × Int)) : List Int × Bool := v_told (v_grt p0.1 p0.2)
abbrev qre_ref05_Values (p0 : Int × List (Int × Int × Int × Int)) : List Prop := [v_nokI p0.1 p0.2]
theorem pp_ref05_Values (p0 : Int × List (Int × Int × Int × Int)) (hq : ∀ p ∈ qre_ref05_Values p0, p) : ∀ p ∈ pre_ref05_Values p0, p := by
  have h := (conj_of hq).1
  have h8 := h.1.n8
  have h0 := h.2
  have hl := h.1.len
  simp only [pre_ref05_Values, List.forall_mem_cons]
  exact ⟨by omega, by omega, by omega, by omega, v_all_ok h, by simp⟩
theorem tt_ref05_Values (p0 : Int × List (Int × Int × Int × Int)) (_ : ∀ p ∈ qre_ref05_Values p0, p) : s_ref05_Values p0 = t_ref05_Values p0 := by
  show v_told (v_grt p0.1 (v_pick p0.2 (v_all p0.2))) = _
  rw [v_pick_all]

abbrev con_ref05_Values : Con := ⟨P_ref05_Values, R_ref05_Values, fun x => qre_ref05_Values x, fun x => t_ref05_Values x⟩
theorem ok_ref05_Values : ConOk Tryd.prog 46 con_ref05_Values := ⟨k_ref05_Values, fun x hx => ret_tf (ps := P_ref05_Values) (rs := R_ref05_Values) (x := x) (y := t_ref05_Values x) e_ref05_Values hC_ref05_Values (tf_of (w_ref05_Values_eq x (fun z => z = t_ref05_Values x)) (d_ref05_Values x (fun z => z = t_ref05_Values x) (pp_ref05_Values x hx) (tt_ref05_Values x hx)))⟩
/- base_Ints -/
def C_base_Ints : Cons := []
theorem hC_base_Ints : ConsOk Tryd.prog C_base_Ints := ConsOk.nil
def w_base_Ints (p0 : (List Int)) (p1 : (List Int)) (K : Bool → Prop) : Prop :=
 (((((((List.length p0) : Nat) : Int) != (((List.length p1) : Nat) : Int)) = true) →
  (K false)) ∧
  ((((((List.length p0) : Nat) : Int) != (((List.length p1) : Nat) : Int)) = false) →
  (∃ n0, (loopP (fun (y1 : Int) k2 =>
      ((((decide (y1 < (((List.length p0) : Nat) : Int))) = true) →
      (((0 : Int) ≤ y1) ∧
        ((y1 < (((List.length p0) : Nat) : Int)) ∧
        (((0 : Int) ≤ y1) ∧
        ((y1 < (((List.length p1) : Nat) : Int)) ∧
        (((((List.getD p0 (Int.toNat y1) (0 : Int)) != (List.getD p1 (Int.toNat y1) (0 : Int))) = true) →
        (K false)) ∧
        ((((List.getD p0 (Int.toNat y1) (0 : Int)) != (List.getD p1 (Int.toNat y1) (0 : Int))) = false) →
        (k2 (IntKind.i64.wrap (y1 + (1 : Int))))))))))) ∧
      (((decide (y1 < (((List.length p0) : Nat) : Int))) = false) →
      (K true)))) n0 (0 : Int)))))
set_option maxHeartbeats 4000000 in
theorem w_base_Ints_eq (p0 : (List Int)) (p1 : (List Int)) (K : Bool → Prop) : tfn F_base_Ints A_base_Ints C_base_Ints P_base_Ints R_base_Ints (p0, p1) K = w_base_Ints p0 p1 K := by kernel_rfl
def st_base_Ints_0 (p0 : (List Int)) (p1 : (List Int)) (y1 : Int) : Int ⊕ Bool :=
  (cond (decide (y1 < (((List.length p0) : Nat) : Int))) (cond ((List.getD p0 (Int.toNat y1) (0 : Int)) != (List.getD p1 (Int.toNat y1) (0 : Int))) (Sum.inr false)
    (Sum.inl (IntKind.i64.wrap (y1 + (1 : Int)))))
    (Sum.inr true))
abbrev sp_base_Ints_0 (p0 : (List Int)) (p1 : (List Int)) (y1 : Int) : List Prop := [(((decide (y1 < (((List.length p0) : Nat) : Int))) = true) → ((0 : Int) ≤ y1)),
    (((decide (y1 < (((List.length p0) : Nat) : Int))) = true) → (y1 < (((List.length p0) : Nat) : Int))),
    (((decide (y1 < (((List.length p0) : Nat) : Int))) = true) → (y1 < (((List.length p1) : Nat) : Int)))]
def s_base_Ints (p0 : (List Int)) (p1 : (List Int)) : Bool :=
  (cond ((((List.length p0) : Nat) : Int) != (((List.length p1) : Nat) : Int)) false
    (lpv false (st_base_Ints_0 p0 p1) (0 : Int)))
abbrev pre_base_Ints (p0 : (List Int)) (p1 : (List Int)) : List Prop := [((((((List.length p0) : Nat) : Int) != (((List.length p1) : Nat) : Int)) = false) → (OkL (st_base_Ints_0 p0 p1) (sp_base_Ints_0 p0 p1) (0 : Int)))]
set_option maxHeartbeats 4000000 in
theorem d_base_Ints (p0 : (List Int)) (p1 : (List Int)) (K : Bool → Prop) (hp : ∀ p ∈ pre_base_Ints p0 p1, p) (h : K (s_base_Ints p0 p1)) : w_base_Ints p0 p1 K := by
  unfold w_base_Ints
  unfold s_base_Ints at h
  obtain ⟨hp0, _⟩ := conj_of hp
  exact (br' h (fun e0 h => h)
    (fun e0 h => (loop_gen (hp0 e0) h (fun y1 k1 hp h => by
  unfold st_base_Ints_0 at h; obtain ⟨hp0, hp1, hp2, _⟩ := conj_of hp
  exact (br' h (fun e2 h => ⟨(hp0 e2), (hp1 e2), (hp0 e2), (hp2 e2), (br' h (fun e3 h => h)
    (fun e3 h => h))⟩)
    (fun e2 h => h))))))
theorem l_base_Ints_0 (p0 p1 : List Int) (hl : lenOk p0) (he : p0.length = p1.length) : OkL (st_base_Ints_0 p0 p1) (sp_base_Ints_0 p0 p1) 0 ∧ lpv false (st_base_Ints_0 p0 p1) 0 = v_scan (fun i x => cond (!((x == (p1.getD i.toNat 0)))) (some false) none) true 0 p0 := by
  refine scan_is p0 0 (fun i x => cond (!((x == (p1.getD i.toNat 0)))) (some false) none) true hl ?_ ?_
  · refine ⟨by simp only [sp_base_Ints_0, List.forall_mem_cons, decide_eq_true_eq]; simp, by simp [st_base_Ints_0]⟩
  · intro j hj
    have hj' : (j : Int) < p0.length := by omega
    refine ⟨by simp only [sp_base_Ints_0, List.forall_mem_cons, decide_eq_true_eq, Int.toNat_natCast]; simp <;> omega, ?_⟩
    simp only [st_base_Ints_0, hj', decide_true, Int.toNat_natCast, cond_true, wrap_nat (show (j : Int) ≤ 9223372036854775806 by unfold lenOk at hl; omega)]
    generalize p0.getD j 0 = x
    generalize p1.getD j 0 = z
    simp only [bne]
    cases (x == z) <;> rfl
abbrev t_base_Ints (p0 p1 : List Int) : Bool := decide (p0 = p1)
abbrev qre_base_Ints (p0 p1 : List Int) : List Prop := [lenOk p0]
theorem pp_base_Ints (p0 p1 : List Int) (hq : ∀ p ∈ qre_base_Ints p0 p1, p) : ∀ p ∈ pre_base_Ints p0 p1, p := by
  simp only [pre_base_Ints, List.forall_mem_cons]
  refine ⟨fun h => (l_base_Ints_0 p0 p1 (conj_of hq).1 ?_).1, by simp⟩
  have h' : (p0.length : Int) = p1.length := by simpa using h
  omega
theorem tt_base_Ints (p0 p1 : List Int) (hq : ∀ p ∈ qre_base_Ints p0 p1, p) : s_base_Ints p0 p1 = t_base_Ints p0 p1 := by
  unfold s_base_Ints t_base_Ints
  by_cases h : p0.length = p1.length
  · rw [show ((p0.length : Int) != (p1.length : Int)) = false by simp [h]]
    refine (l_base_Ints_0 p0 p1 (conj_of hq).1 h).2.trans ?_
    exact v_scan_eq 0 (fun x y => (x == y)) (fun x y => by by_cases h : x = y <;> simp [h]) p0 p1 h
  · rw [show ((p0.length : Int) != (p1.length : Int)) = true by simp; omega]
    have : p0 ≠ p1 := fun e => h (congrArg List.length e)
    simp [this]

abbrev con_base_Ints : Con := ⟨P_base_Ints, R_base_Ints, fun x => qre_base_Ints x.1 x.2, fun x => t_base_Ints x.1 x.2⟩
theorem ok_base_Ints : ConOk Tryd.prog 22 con_base_Ints := ⟨k_base_Ints, fun x hx => ret_tf (ps := P_base_Ints) (rs := R_base_Ints) (x := x) (y := t_base_Ints x.1 x.2) e_base_Ints hC_base_Ints (tf_of (w_base_Ints_eq x.1 x.2 (fun z => z = t_base_Ints x.1 x.2)) (d_base_Ints x.1 x.2 (fun z => z = t_base_Ints x.1 x.2) (pp_base_Ints x.1 x.2 hx) (tt_base_Ints x.1 x.2 hx)))⟩
/- ref05_CheckValues -/
def C_ref05_CheckValues : Cons := [(60, [], con_base_Within)]
theorem hC_ref05_CheckValues : ConsOk Tryd.prog C_ref05_CheckValues := ConsOk.cons ok_base_Within <| ConsOk.nil
abbrev q0_ref05_CheckValues (p0 : (Int × (List (Int × (Int × (Int × Int)))))) (y4 : Int) := (List.getD p0.2 (Int.toNat y4) (zz0, (zz0, (zz0, zz0))))
def w_ref05_CheckValues (p0 : (Int × (List (Int × (Int × (Int × Int)))))) (p1 : (List Int)) (K : (Int × Int) → Prop) : Prop :=
 (((((((List.length p1) : Nat) : Int) != p0.1) = true) →
  (K (zz0, (10 : Int)))) ∧
  ((((((List.length p1) : Nat) : Int) != p0.1) = false) →
  (∃ n0, (loopP (fun (y1 : Int) k2 =>
      ((((decide (y1 < (((List.length p1) : Nat) : Int))) = true) →
      ((zz0 ≤ y1) ∧
        ((y1 < (((List.length p1) : Nat) : Int)) ∧
        ((((!(s_base_Within (List.getD p1 (Int.toNat y1) zz0) (-10000000 : Int) (10000000 : Int))) = true) →
        (K (y1, zz2))) ∧
        (((!(s_base_Within (List.getD p1 (Int.toNat y1) zz0) (-10000000 : Int) (10000000 : Int))) = false) →
        (k2 (wi (y1 + zz1)))))))) ∧
      (((decide (y1 < (((List.length p1) : Nat) : Int))) = false) →
      (∃ n3, (loopP (fun (y4 : Int) k5 =>
          ((((decide (y4 < (((List.length p0.2) : Nat) : Int))) = true) →
          ((zz0 ≤ y4) ∧
            ((y4 < (((List.length p0.2) : Nat) : Int)) ∧
            ((zz0 ≤ (q0_ref05_CheckValues p0 y4).2.1) ∧
            (((q0_ref05_CheckValues p0 y4).2.1 < (((List.length p1) : Nat) : Int)) ∧
            ((zz0 ≤ (q0_ref05_CheckValues p0 y4).1) ∧
            (((q0_ref05_CheckValues p0 y4).1 < (((List.length p1) : Nat) : Int)) ∧
            ((((!(s_base_Within (wi ((List.getD p1 (Int.toNat (q0_ref05_CheckValues p0 y4).2.1) zz0) - (List.getD p1 (Int.toNat (q0_ref05_CheckValues p0 y4).1) zz0))) (q0_ref05_CheckValues p0 y4).2.2.1 (q0_ref05_CheckValues p0 y4).2.2.2)) = true) →
            (K (y4, (19 : Int)))) ∧
            (((!(s_base_Within (wi ((List.getD p1 (Int.toNat (q0_ref05_CheckValues p0 y4).2.1) zz0) - (List.getD p1 (Int.toNat (q0_ref05_CheckValues p0 y4).1) zz0))) (q0_ref05_CheckValues p0 y4).2.2.1 (q0_ref05_CheckValues p0 y4).2.2.2)) = false) →
            (k5 (wi (y4 + zz1)))))))))))) ∧
          (((decide (y4 < (((List.length p0.2) : Nat) : Int))) = false) →
          (K (zz0, zz0))))) n3 zz0))))) n0 zz0))))
set_option maxHeartbeats 4000000 in
theorem w_ref05_CheckValues_eq (p0 : (Int × (List (Int × (Int × (Int × Int)))))) (p1 : (List Int)) (K : (Int × Int) → Prop) : tfn F_ref05_CheckValues A_ref05_CheckValues C_ref05_CheckValues P_ref05_CheckValues R_ref05_CheckValues (p0, p1) K = w_ref05_CheckValues p0 p1 K := by kernel_rfl
def st_ref05_CheckValues_0 (p0 : (Int × (List (Int × (Int × (Int × Int)))))) (p1 : (List Int)) (y1 : Int) (y4 : Int) : Int ⊕ (Int ⊕ (Int × Int)) :=
  (cond (decide (y4 < (((List.length p0.2) : Nat) : Int))) (cond (!(s_base_Within (IntKind.i64.wrap ((List.getD p1 (Int.toNat (List.getD p0.2 (Int.toNat y4) ((0 : Int), ((0 : Int), ((0 : Int), (0 : Int))))).2.1) (0 : Int)) - (List.getD p1 (Int.toNat (List.getD p0.2 (Int.toNat y4) ((0 : Int), ((0 : Int), ((0 : Int), (0 : Int))))).1) (0 : Int)))) (List.getD p0.2 (Int.toNat y4) ((0 : Int), ((0 : Int), ((0 : Int), (0 : Int))))).2.2.1 (List.getD p0.2 (Int.toNat y4) ((0 : Int), ((0 : Int), ((0 : Int), (0 : Int))))).2.2.2)) (Sum.inr (Sum.inr (y4, (19 : Int))))
    (Sum.inl (IntKind.i64.wrap (y4 + (1 : Int)))))
    (Sum.inr (Sum.inr ((0 : Int), (0 : Int)))))
abbrev sp_ref05_CheckValues_0 (p0 : (Int × (List (Int × (Int × (Int × Int)))))) (p1 : (List Int)) (y1 : Int) (y4 : Int) : List Prop := [(((decide (y4 < (((List.length p0.2) : Nat) : Int))) = true) → ((0 : Int) ≤ y4)),
    (((decide (y4 < (((List.length p0.2) : Nat) : Int))) = true) → (y4 < (((List.length p0.2) : Nat) : Int))),
    (((decide (y4 < (((List.length p0.2) : Nat) : Int))) = true) → ((0 : Int) ≤ (List.getD p0.2 (Int.toNat y4) ((0 : Int), ((0 : Int), ((0 : Int), (0 : Int))))).2.1)),
    (((decide (y4 < (((List.length p0.2) : Nat) : Int))) = true) → ((List.getD p0.2 (Int.toNat y4) ((0 : Int), ((0 : Int), ((0 : Int), (0 : Int))))).2.1 < (((List.length p1) : Nat) : Int))),
    (((decide (y4 < (((List.length p0.2) : Nat) : Int))) = true) → ((0 : Int) ≤ (List.getD p0.2 (Int.toNat y4) ((0 : Int), ((0 : Int), ((0 : Int), (0 : Int))))).1)),
    (((decide (y4 < (((List.length p0.2) : Nat) : Int))) = true) → ((List.getD p0.2 (Int.toNat y4) ((0 : Int), ((0 : Int), ((0 : Int), (0 : Int))))).1 < (((List.length p1) : Nat) : Int)))]
def st_ref05_CheckValues_1 (p0 : (Int × (List (Int × (Int × (Int × Int)))))) (p1 : (List Int)) (y1 : Int) : Int ⊕ (Int × Int) :=
  (cond (decide (y1 < (((List.length p1) : Nat) : Int))) (cond (!(s_base_Within (List.getD p1 (Int.toNat y1) (0 : Int)) (-10000000 : Int) (10000000 : Int))) (Sum.inr (y1, (2 : Int)))
    (Sum.inl (IntKind.i64.wrap (y1 + (1 : Int)))))
    (lpv (Sum.inr ((0 : Int), (0 : Int))) (st_ref05_CheckValues_0 p0 p1 y1) (0 : Int)))
abbrev sp_ref05_CheckValues_1 (p0 : (Int × (List (Int × (Int × (Int × Int)))))) (p1 : (List Int)) (y1 : Int) : List Prop := [(((decide (y1 < (((List.length p1) : Nat) : Int))) = true) → ((0 : Int) ≤ y1)),
    (((decide (y1 < (((List.length p1) : Nat) : Int))) = true) → (y1 < (((List.length p1) : Nat) : Int))),
    (((decide (y1 < (((List.length p1) : Nat) : Int))) = false) → (OkL (st_ref05_CheckValues_0 p0 p1 y1) (sp_ref05_CheckValues_0 p0 p1 y1) (0 : Int)))]
def s_ref05_CheckValues (p0 : (Int × (List (Int × (Int × (Int × Int)))))) (p1 : (List Int)) : (Int × Int) :=
  (cond ((((List.length p1) : Nat) : Int) != p0.1) ((0 : Int), (10 : Int))
    (lpv ((0 : Int), (0 : Int)) (st_ref05_CheckValues_1 p0 p1) (0 : Int)))
abbrev pre_ref05_CheckValues (p0 : (Int × (List (Int × (Int × (Int × Int)))))) (p1 : (List Int)) : List Prop := [((((((List.length p1) : Nat) : Int) != p0.1) = false) → (OkL (st_ref05_CheckValues_1 p0 p1) (sp_ref05_CheckValues_1 p0 p1) (0 : Int)))]
set_option maxHeartbeats 4000000 in
theorem d_ref05_CheckValues (p0 : (Int × (List (Int × (Int × (Int × Int)))))) (p1 : (List Int)) (K : (Int × Int) → Prop) (hp : ∀ p ∈ pre_ref05_CheckValues p0 p1, p) (h : K (s_ref05_CheckValues p0 p1)) : w_ref05_CheckValues p0 p1 K := by
  unfold w_ref05_CheckValues
  unfold s_ref05_CheckValues at h
  obtain ⟨hp0, _⟩ := conj_of hp
  exact (br' h (fun e0 h => h)
    (fun e0 h => (loop_gen (hp0 e0) h (fun y1 k1 hp h => by
  unfold st_ref05_CheckValues_1 at h; obtain ⟨hp0, hp1, hp2, _⟩ := conj_of hp
  exact (br' h (fun e2 h => ⟨(hp0 e2), (hp1 e2), (br' h (fun e3 h => h)
    (fun e3 h => h))⟩)
    (fun e2 h => (loop_gen (hp2 e2) h (fun y4 k4 hp h => by
  unfold st_ref05_CheckValues_0 at h; obtain ⟨hp0, hp1, hp2, hp3, hp4, hp5, _⟩ := conj_of hp
  exact (br' h (fun e5 h => ⟨(hp0 e5), (hp1 e5), (hp2 e5), (hp3 e5), (hp4 e5), (hp5 e5), (br' h (fun e6 h => h)
    (fun e6 h => h))⟩)
    (fun e5 h => h))))))))))
theorem l_ref05_CheckValues_0 (p0 : Int × List (Int × Int × Int × Int)) (p1 : List Int) (y1 : Int) (h : v_nokI p0.1 p0.2) (hl : (p1.length : Int) = p0.1) : OkL (st_ref05_CheckValues_0 p0 p1 y1) (sp_ref05_CheckValues_0 p0 p1 y1) 0 ∧ lpv (Sum.inr ((0 : Int), (0 : Int))) (st_ref05_CheckValues_0 p0 p1 y1) 0 = v_scan (fun i t => cond (!s_gravity_within (IntKind.i64.wrap (p1.getD t.2.1.toNat 0 - p1.getD t.1.toNat 0)) t.2.2.1 t.2.2.2) (some (Sum.inr (i, 19))) none) (Sum.inr (0, 0)) 0 p0.2 := by
  have h12 := h.1.len
  refine scan_is p0.2 (0, 0, 0, 0) _ _ (lenOk_le h12 (by decide)) ?_ ?_
  · have hd : decide ((p0.2.length : Int) < (p0.2.length : Nat)) = false := decide_eq_false (by omega)
    exact ⟨by simp only [sp_ref05_CheckValues_0, List.forall_mem_cons, hd]; simp, by simp [st_ref05_CheckValues_0]⟩
  · intro j hj
    have hd : decide ((j : Int) < (p0.2.length : Nat)) = true := decide_eq_true (by omega)
    have ht := h.1.all _ (getD_mem' (0, 0, 0, 0) hj)
    rw [Int.toNat_of_nonneg h.2] at ht
    simp only [sp_ref05_CheckValues_0, st_ref05_CheckValues_0, List.forall_mem_cons, hd, cond_true, Int.toNat_natCast, wrap_nat (show (j : Int) ≤ 9223372036854775806 by omega)]
    generalize p0.2.getD j (0, 0, 0, 0) = x at *
    refine ⟨?_, ?_⟩
    · and_intros
      all_goals first | (intros; omega) | (intro p hp; cases hp)
    · show cond (!s_gravity_within (IntKind.i64.wrap (p1.getD x.2.1.toNat 0 - p1.getD x.1.toNat 0)) x.2.2.1 x.2.2.2) _ _ = _
      cases s_gravity_within (IntKind.i64.wrap (p1.getD x.2.1.toNat 0 - p1.getD x.1.toNat 0)) x.2.2.1 x.2.2.2 <;> rfl
theorem v_scan_inr {α : Type} {c : α → Bool} {β : Type} : ∀ (l : List α) (i : Int), v_scan (fun i t => cond (c t) (some (Sum.inr (i, 19) : β ⊕ (Int × Int))) none) (Sum.inr (0, 0)) i l = Sum.inr (v_scan (fun i t => cond (c t) (some (i, 19)) none) ((0 : Int), (0 : Int)) i l)
  | [], _ => rfl
  | x :: l, i => by
    unfold v_scan
    cases c x
    · exact v_scan_inr l (i + 1)
    · rfl
/-- Values out of their limits come first. -/
theorem v_scan_two {r : Int × Int} : ∀ (l : List Int) (i : Int), 0 ≤ i → v_scan (fun i x => cond (s_gravity_CheckValues_1 x) (some (i, 2)) none) r i l = cond (decide (v_scan (fun i x => cond (s_gravity_CheckValues_1 x) (some i) none) (-1) i l ≥ 0)) (v_scan (fun i x => cond (s_gravity_CheckValues_1 x) (some i) none) (-1) i l, 2) r
  | [], _, _ => rfl
  | x :: l, i, h => by
    unfold v_scan
    cases s_gravity_CheckValues_1 x
    · exact v_scan_two l (i + 1) (by omega)
    · simp [h]
theorem l_ref05_CheckValues_1 (p0 : Int × List (Int × Int × Int × Int)) (p1 : List Int) (h : v_nokI p0.1 p0.2) (hl : (p1.length : Int) = p0.1) : OkL (st_ref05_CheckValues_1 p0 p1) (sp_ref05_CheckValues_1 p0 p1) 0 ∧ lpv (0, 0) (st_ref05_CheckValues_1 p0 p1) 0 = cond (decide (v_idx_slices_IndexFuncint_int__gravity_CheckValues_1 p1 ≥ 0)) (v_idx_slices_IndexFuncint_int__gravity_CheckValues_1 p1, 2) (v_agree p0.2 p1) := by
  have n8 := h.1.n8
  unfold v_idx_slices_IndexFuncint_int__gravity_CheckValues_1
  rw [← v_scan_two p1 0 (Int.le_refl _)]
  refine scan_is p1 0 _ _ (lenOk_le (n := 8) (by omega) (by decide)) ?_ ?_
  · have hd : decide ((p1.length : Int) < (p1.length : Nat)) = false := decide_eq_false (by omega)
    obtain ⟨g1, g2⟩ := l_ref05_CheckValues_0 p0 p1 (p1.length : Int) h hl
    refine ⟨by simp only [sp_ref05_CheckValues_1, List.forall_mem_cons, hd]; exact ⟨fun h => (by cases h), fun h => (by cases h), fun _ => g1, by simp⟩, ?_⟩
    simp only [st_ref05_CheckValues_1, hd, cond_false]
    rw [g2]
    exact v_scan_inr p0.2 0
  · intro j hj
    have hd : decide ((j : Int) < (p1.length : Nat)) = true := decide_eq_true (by omega)
    refine ⟨by simp only [sp_ref05_CheckValues_1, List.forall_mem_cons, hd]; exact ⟨fun _ => by omega, fun _ => by omega, fun h => (by cases h), by simp⟩, ?_⟩
    simp only [st_ref05_CheckValues_1, hd, cond_true, Int.toNat_natCast, wrap_nat (show (j : Int) ≤ 9223372036854775806 by omega)]
    show cond (s_gravity_CheckValues_1 (p1.getD j 0)) _ _ = _
    cases s_gravity_CheckValues_1 (p1.getD j 0) <;> rfl
abbrev t_ref05_CheckValues (p0 : Int × List (Int × Int × Int × Int)) (p1 : List Int) : Int × Int := v_ckv p0 p1
abbrev qre_ref05_CheckValues (p0 : Int × List (Int × Int × Int × Int)) (_ : List Int) : List Prop := [(v_net p0).2 = 0]
theorem pp_ref05_CheckValues (p0 : Int × List (Int × Int × Int × Int)) (p1 : List Int) (hq : ∀ p ∈ qre_ref05_CheckValues p0 p1, p) : ∀ p ∈ pre_ref05_CheckValues p0 p1, p := by
  simp only [pre_ref05_CheckValues, List.forall_mem_cons]
  exact ⟨fun h => (l_ref05_CheckValues_1 p0 p1 (tx_net (conj_of hq).1) (by simpa using h)).1, by simp⟩
theorem tt_ref05_CheckValues (p0 : Int × List (Int × Int × Int × Int)) (p1 : List Int) (hq : ∀ p ∈ qre_ref05_CheckValues p0 p1, p) : s_ref05_CheckValues p0 p1 = t_ref05_CheckValues p0 p1 := by
  have hn := (conj_of hq).1
  unfold s_ref05_CheckValues t_ref05_CheckValues v_ckv v_valerr
  rw [hn]
  by_cases h : (p1.length : Int) = p0.1
  · rw [(l_ref05_CheckValues_1 p0 p1 (tx_net hn) h).2]
    simp [h, s_gravity_unless, v_first]
  · rw [show ((p1.length : Int) != p0.1) = true from bne_iff_ne.2 h, show ((p1.length : Int) == p0.1) = false from beq_eq_false_iff_ne.2 h]; rfl

abbrev con_ref05_CheckValues : Con := ⟨P_ref05_CheckValues, R_ref05_CheckValues, fun x => qre_ref05_CheckValues x.1 x.2, fun x => t_ref05_CheckValues x.1 x.2⟩
theorem ok_ref05_CheckValues : ConOk Tryd.prog 47 con_ref05_CheckValues := ⟨k_ref05_CheckValues, fun x hx => ret_tf (ps := P_ref05_CheckValues) (rs := R_ref05_CheckValues) (x := x) (y := t_ref05_CheckValues x.1 x.2) e_ref05_CheckValues hC_ref05_CheckValues (tf_of (w_ref05_CheckValues_eq x.1 x.2 (fun z => z = t_ref05_CheckValues x.1 x.2)) (d_ref05_CheckValues x.1 x.2 (fun z => z = t_ref05_CheckValues x.1 x.2) (pp_ref05_CheckValues x.1 x.2 hx) (tt_ref05_CheckValues x.1 x.2 hx)))⟩
/- law05_GravityNets -/
def C_law05_GravityNets : Cons := [(15, [], con_law05_awake), (40, [], con_law05_fewTies), (42, [], con_ref05_CopyNet), (41, [], con_gravity_CheckNet), (43, [], con_gravity_ValuesOf), (31, ownMark, con_base_CopyInts), (44, [], con_gravity_CheckValues), (45, [], con_ref05_CheckNet), (46, [], con_ref05_Values), (22, [], con_base_Ints), (47, [], con_ref05_CheckValues)]
theorem hC_law05_GravityNets : ConsOk Tryd.prog C_law05_GravityNets := ConsOk.cons ok_law05_awake <| ConsOk.cons ok_law05_fewTies <| ConsOk.cons ok_ref05_CopyNet <| ConsOk.cons ok_gravity_CheckNet <| ConsOk.cons ok_gravity_ValuesOf <| ConsOk.consO ok_base_CopyInts <| ConsOk.cons ok_gravity_CheckValues <| ConsOk.cons ok_ref05_CheckNet <| ConsOk.cons ok_ref05_Values <| ConsOk.cons ok_base_Ints <| ConsOk.cons ok_ref05_CheckValues <| ConsOk.nil
abbrev q0_law05_GravityNets (p0 : (Int × (List (Int × (Int × (Int × Int)))))) := (cond (v_told (v_grt p0.1 p0.2)).2 (cond ((v_vals (s_ref05_CopyNet p0)).2 != zz0) true (!(decide ((v_vals (s_ref05_CopyNet p0)).1 = (v_told (v_grt p0.1 p0.2)).1)))) false)
abbrev q1_law05_GravityNets (p0 : (Int × (List (Int × (Int × (Int × Int)))))) (p1 : (List Int)) := (cond ((v_vals (s_ref05_CopyNet p0)).2 == (v_net p0).2) ((v_ckv (s_ref05_CopyNet p0) p1).2 == (v_net p0).2) false)
abbrev q5_law05_GravityNets (p0 : (Int × (List (Int × (Int × (Int × Int)))))) := ((!(q0_law05_GravityNets p0)) && (!(v_told (v_grt p0.1 p0.2)).2))
abbrev q2_law05_GravityNets (p0 : (Int × (List (Int × (Int × (Int × Int)))))) := ((!(q5_law05_GravityNets p0)) || ((v_vals (s_ref05_CopyNet p0)).2 != (13 : Int)))
abbrev q3_law05_GravityNets (p0 : (Int × (List (Int × (Int × (Int × Int)))))) := ((!(v_told (v_grt p0.1 p0.2)).2) || ((v_vals (s_ref05_CopyNet p0)).2 != zz0))
abbrev q4_law05_GravityNets (p0 : (Int × (List (Int × (Int × (Int × Int)))))) (p1 : (List Int)) := (cond (q1_law05_GravityNets p0 p1) ((((List.length (v_vals (s_ref05_CopyNet p0)).1) : Nat) : Int) == zz0) false)
def w_law05_GravityNets (p0 : (Int × (List (Int × (Int × (Int × Int)))))) (p1 : (List Int)) (K : Bool → Prop) : Prop :=
 ((((!(s_law05_awake)) = true) →
  (K false)) ∧
  (((!(s_law05_awake)) = false) →
  ((((!(s_law05_fewTies p0)) = false) →
    ((!(s_law05_fewTies p0)) = (!(s_law05_fewTies p0)))) ∧
    ((((!(s_law05_fewTies p0)) = false) →
    ((!(s_law05_fewTies p0)) = (!(s_law05_fewTies p0)))) ∧
    (((!(s_law05_fewTies p0)) = (!(s_law05_fewTies p0))) ∧
    ((((cond (!(s_law05_fewTies p0)) true (decide ((((List.length p1) : Nat) : Int) > (10 : Int)))) = true) →
    (K true)) ∧
    (((cond (!(s_law05_fewTies p0)) true (decide ((((List.length p1) : Nat) : Int) > (10 : Int)))) = false) →
    (((((List.length ([] : List (Int × (Int × (Int × Int))))) + (List.length p0.2)) * 32) ≤ 140737488355328) ∧
      (((((List.length ([] : List (Int × (Int × (Int × Int))))) + (List.length p0.2)) * 32) ≤ 140737488355328) ∧
      (((((List.length ([] : List (Int × (Int × (Int × Int))))) + (List.length p0.2)) * 32) ≤ 140737488355328) ∧
      (((List.length p1) ≤ 1000000) ∧
      (((((v_net (s_ref05_CopyNet p0)).2 != (v_net p0).2) = false) →
      (((v_net (s_ref05_CopyNet p0)).2 != (v_net p0).2) = ((v_net (s_ref05_CopyNet p0)).2 != (v_net p0).2))) ∧
      (((((v_net (s_ref05_CopyNet p0)).2 != (v_net p0).2) = false) →
      (((v_net (s_ref05_CopyNet p0)).2 != (v_net p0).2) = ((v_net (s_ref05_CopyNet p0)).2 != (v_net p0).2))) ∧
      ((((v_net (s_ref05_CopyNet p0)).2 != (v_net p0).2) = ((v_net (s_ref05_CopyNet p0)).2 != (v_net p0).2)) ∧
      ((((cond ((v_net (s_ref05_CopyNet p0)).2 != (v_net p0).2) true ((v_net (s_ref05_CopyNet p0)).1 != (v_net p0).1)) = true) →
      (K false)) ∧
      (((cond ((v_net (s_ref05_CopyNet p0)).2 != (v_net p0).2) true ((v_net (s_ref05_CopyNet p0)).1 != (v_net p0).1)) = false) →
      (((((v_net p0).2 != zz0) = true) →
        (((((v_vals (s_ref05_CopyNet p0)).2 == (v_net p0).2) = true) →
          (((v_vals (s_ref05_CopyNet p0)).2 == (v_net p0).2) = ((v_vals (s_ref05_CopyNet p0)).2 == (v_net p0).2))) ∧
          (((((v_vals (s_ref05_CopyNet p0)).2 == (v_net p0).2) = true) →
          (((v_vals (s_ref05_CopyNet p0)).2 == (v_net p0).2) = ((v_vals (s_ref05_CopyNet p0)).2 == (v_net p0).2))) ∧
          ((((v_vals (s_ref05_CopyNet p0)).2 == (v_net p0).2) = ((v_vals (s_ref05_CopyNet p0)).2 == (v_net p0).2)) ∧
          ((((q1_law05_GravityNets p0 p1) = true) →
          ((q1_law05_GravityNets p0 p1) = (q1_law05_GravityNets p0 p1))) ∧
          ((((q1_law05_GravityNets p0 p1) = true) →
          ((q1_law05_GravityNets p0 p1) = (q1_law05_GravityNets p0 p1))) ∧
          (((q1_law05_GravityNets p0 p1) = (q1_law05_GravityNets p0 p1)) ∧
          ((((q4_law05_GravityNets p0 p1) = true) →
          ((q4_law05_GravityNets p0 p1) = (q4_law05_GravityNets p0 p1))) ∧
          (((q4_law05_GravityNets p0 p1) = (q4_law05_GravityNets p0 p1)) ∧
          (K (cond (q4_law05_GravityNets p0 p1) ((v_ckv (s_ref05_CopyNet p0) p1).1 == zz0) false))))))))))) ∧
        ((((v_net p0).2 != zz0) = false) →
        ((v_nokI p0.1 p0.2) ∧
          ((((v_told (v_grt p0.1 p0.2)).2 = true) →
          ((v_told (v_grt p0.1 p0.2)).2 = (v_told (v_grt p0.1 p0.2)).2)) ∧
          ((((v_told (v_grt p0.1 p0.2)).2 = true) →
          ((v_told (v_grt p0.1 p0.2)).2 = (v_told (v_grt p0.1 p0.2)).2)) ∧
          ((((q3_law05_GravityNets p0) = false) →
          ((q3_law05_GravityNets p0) = (q3_law05_GravityNets p0))) ∧
          ((((q3_law05_GravityNets p0) = false) →
          ((q3_law05_GravityNets p0) = (q3_law05_GravityNets p0))) ∧
          ((((q3_law05_GravityNets p0) = false) →
          (lenOk (v_vals (s_ref05_CopyNet p0)).1)) ∧
          ((((q3_law05_GravityNets p0) = false) →
          ((q3_law05_GravityNets p0) = (q3_law05_GravityNets p0))) ∧
          ((((v_told (v_grt p0.1 p0.2)).2 = true) →
          ((v_told (v_grt p0.1 p0.2)).2 = (v_told (v_grt p0.1 p0.2)).2)) ∧
          ((((v_told (v_grt p0.1 p0.2)).2 = true) →
          ((q3_law05_GravityNets p0) = ((v_vals (s_ref05_CopyNet p0)).2 != zz0))) ∧
          (((v_told (v_grt p0.1 p0.2)).2 = (v_told (v_grt p0.1 p0.2)).2) ∧
          ((((q0_law05_GravityNets p0) = false) →
          ((q0_law05_GravityNets p0) = (q0_law05_GravityNets p0))) ∧
          ((((q0_law05_GravityNets p0) = false) →
          ((q0_law05_GravityNets p0) = (q0_law05_GravityNets p0))) ∧
          ((((q5_law05_GravityNets p0) = true) →
          ((q5_law05_GravityNets p0) = (q5_law05_GravityNets p0))) ∧
          ((((q5_law05_GravityNets p0) = true) →
          ((q5_law05_GravityNets p0) = (q5_law05_GravityNets p0))) ∧
          ((((q2_law05_GravityNets p0) = false) →
          ((q2_law05_GravityNets p0) = (q2_law05_GravityNets p0))) ∧
          ((((q2_law05_GravityNets p0) = false) →
          ((q2_law05_GravityNets p0) = (q2_law05_GravityNets p0))) ∧
          ((((q5_law05_GravityNets p0) = true) →
          ((q5_law05_GravityNets p0) = (q5_law05_GravityNets p0))) ∧
          ((((q5_law05_GravityNets p0) = true) →
          ((q2_law05_GravityNets p0) = ((v_vals (s_ref05_CopyNet p0)).2 != (13 : Int)))) ∧
          ((((q0_law05_GravityNets p0) = false) →
          ((q0_law05_GravityNets p0) = (q0_law05_GravityNets p0))) ∧
          ((((q0_law05_GravityNets p0) = false) →
          ((q5_law05_GravityNets p0) = (!(v_told (v_grt p0.1 p0.2)).2))) ∧
          (((q0_law05_GravityNets p0) = (q0_law05_GravityNets p0)) ∧
          ((((cond (q0_law05_GravityNets p0) true (cond (!(v_told (v_grt p0.1 p0.2)).2) (cond ((v_vals (s_ref05_CopyNet p0)).2 != (13 : Int)) true ((((List.length (v_vals (s_ref05_CopyNet p0)).1) : Nat) : Int) != zz0)) false)) = true) →
          (K false)) ∧
          (((cond (q0_law05_GravityNets p0) true (cond (!(v_told (v_grt p0.1 p0.2)).2) (cond ((v_vals (s_ref05_CopyNet p0)).2 != (13 : Int)) true ((((List.length (v_vals (s_ref05_CopyNet p0)).1) : Nat) : Int) != zz0)) false)) = false) →
          (((v_net p0).2 = zz0) ∧
            (((((v_ckv (s_ref05_CopyNet p0) p1).2 == (v_ckv p0 p1).2) = true) →
            (((v_ckv (s_ref05_CopyNet p0) p1).2 == (v_ckv p0 p1).2) = ((v_ckv (s_ref05_CopyNet p0) p1).2 == (v_ckv p0 p1).2))) ∧
            (((((v_ckv (s_ref05_CopyNet p0) p1).2 == (v_ckv p0 p1).2) = true) →
            (((v_ckv (s_ref05_CopyNet p0) p1).2 == (v_ckv p0 p1).2) = ((v_ckv (s_ref05_CopyNet p0) p1).2 == (v_ckv p0 p1).2))) ∧
            ((((v_ckv (s_ref05_CopyNet p0) p1).2 == (v_ckv p0 p1).2) = ((v_ckv (s_ref05_CopyNet p0) p1).2 == (v_ckv p0 p1).2)) ∧
            (K (cond ((v_ckv (s_ref05_CopyNet p0) p1).2 == (v_ckv p0 p1).2) ((v_ckv (s_ref05_CopyNet p0) p1).1 == (v_ckv p0 p1).1) false)))))))))))))))))))))))))))))))))))))))))))))))
set_option maxHeartbeats 4000000 in
theorem w_law05_GravityNets_eq (p0 : (Int × (List (Int × (Int × (Int × Int)))))) (p1 : (List Int)) (K : Bool → Prop) : tfn F_law05_GravityNets A_law05_GravityNets C_law05_GravityNets P_law05_GravityNets R_law05_GravityNets (p0, p1) K = w_law05_GravityNets p0 p1 K := by kernel_rfl
def s_law05_GravityNets (p0 : (Int × (List (Int × (Int × (Int × Int)))))) (p1 : (List Int)) : Bool :=
  (cond (cond (!(s_law05_fewTies p0)) true (decide ((((List.length p1) : Nat) : Int) > (10 : Int)))) true
    (cond (cond ((v_net (s_ref05_CopyNet p0)).2 != (v_net p0).2) true ((v_net (s_ref05_CopyNet p0)).1 != (v_net p0).1)) false
    (cond ((v_net p0).2 != (0 : Int)) (cond (cond (cond ((v_vals (s_ref05_CopyNet p0)).2 == (v_net p0).2) ((v_ckv (s_ref05_CopyNet p0) p1).2 == (v_net p0).2) false) ((((List.length (v_vals (s_ref05_CopyNet p0)).1) : Nat) : Int) == (0 : Int)) false) ((v_ckv (s_ref05_CopyNet p0) p1).1 == (0 : Int)) false)
    (cond (cond (cond (v_told (v_grt p0.1 p0.2)).2 (cond ((v_vals (s_ref05_CopyNet p0)).2 != (0 : Int)) true (!(decide ((v_vals (s_ref05_CopyNet p0)).1 = (v_told (v_grt p0.1 p0.2)).1)))) false) true (cond (!(v_told (v_grt p0.1 p0.2)).2) (cond ((v_vals (s_ref05_CopyNet p0)).2 != (13 : Int)) true ((((List.length (v_vals (s_ref05_CopyNet p0)).1) : Nat) : Int) != (0 : Int))) false)) false
    (cond ((v_ckv (s_ref05_CopyNet p0) p1).2 == (v_ckv p0 p1).2) ((v_ckv (s_ref05_CopyNet p0) p1).1 == (v_ckv p0 p1).1) false)))))
abbrev pre_law05_GravityNets (p0 : (Int × (List (Int × (Int × (Int × Int)))))) (p1 : (List Int)) : List Prop := [(((cond (!(s_law05_fewTies p0)) true (decide ((((List.length p1) : Nat) : Int) > (10 : Int)))) = false) → ((((List.length ([] : List (Int × (Int × (Int × Int))))) + (List.length p0.2)) * 32) ≤ 140737488355328)),
    (((cond (!(s_law05_fewTies p0)) true (decide ((((List.length p1) : Nat) : Int) > (10 : Int)))) = false) → ((List.length p1) ≤ 1000000)),
    (((cond (!(s_law05_fewTies p0)) true (decide ((((List.length p1) : Nat) : Int) > (10 : Int)))) = false) → (((cond ((v_net (s_ref05_CopyNet p0)).2 != (v_net p0).2) true ((v_net (s_ref05_CopyNet p0)).1 != (v_net p0).1)) = false) → ((((v_net p0).2 != (0 : Int)) = false) → (v_nokI p0.1 p0.2)))),
    (((cond (!(s_law05_fewTies p0)) true (decide ((((List.length p1) : Nat) : Int) > (10 : Int)))) = false) → (((cond ((v_net (s_ref05_CopyNet p0)).2 != (v_net p0).2) true ((v_net (s_ref05_CopyNet p0)).1 != (v_net p0).1)) = false) → ((((v_net p0).2 != (0 : Int)) = false) → ((((!(v_told (v_grt p0.1 p0.2)).2) || ((v_vals (s_ref05_CopyNet p0)).2 != (0 : Int))) = false) → (lenOk (v_vals (s_ref05_CopyNet p0)).1))))),
    (((cond (!(s_law05_fewTies p0)) true (decide ((((List.length p1) : Nat) : Int) > (10 : Int)))) = false) → (((cond ((v_net (s_ref05_CopyNet p0)).2 != (v_net p0).2) true ((v_net (s_ref05_CopyNet p0)).1 != (v_net p0).1)) = false) → ((((v_net p0).2 != (0 : Int)) = false) → (((v_told (v_grt p0.1 p0.2)).2 = true) → (((!(v_told (v_grt p0.1 p0.2)).2) || ((v_vals (s_ref05_CopyNet p0)).2 != (0 : Int))) = ((v_vals (s_ref05_CopyNet p0)).2 != (0 : Int))))))),
    (((cond (!(s_law05_fewTies p0)) true (decide ((((List.length p1) : Nat) : Int) > (10 : Int)))) = false) → (((cond ((v_net (s_ref05_CopyNet p0)).2 != (v_net p0).2) true ((v_net (s_ref05_CopyNet p0)).1 != (v_net p0).1)) = false) → ((((v_net p0).2 != (0 : Int)) = false) → ((((!(cond (v_told (v_grt p0.1 p0.2)).2 (cond ((v_vals (s_ref05_CopyNet p0)).2 != (0 : Int)) true (!(decide ((v_vals (s_ref05_CopyNet p0)).1 = (v_told (v_grt p0.1 p0.2)).1)))) false)) && (!(v_told (v_grt p0.1 p0.2)).2)) = true) → (((!((!(cond (v_told (v_grt p0.1 p0.2)).2 (cond ((v_vals (s_ref05_CopyNet p0)).2 != (0 : Int)) true (!(decide ((v_vals (s_ref05_CopyNet p0)).1 = (v_told (v_grt p0.1 p0.2)).1)))) false)) && (!(v_told (v_grt p0.1 p0.2)).2))) || ((v_vals (s_ref05_CopyNet p0)).2 != (13 : Int))) = ((v_vals (s_ref05_CopyNet p0)).2 != (13 : Int))))))),
    (((cond (!(s_law05_fewTies p0)) true (decide ((((List.length p1) : Nat) : Int) > (10 : Int)))) = false) → (((cond ((v_net (s_ref05_CopyNet p0)).2 != (v_net p0).2) true ((v_net (s_ref05_CopyNet p0)).1 != (v_net p0).1)) = false) → ((((v_net p0).2 != (0 : Int)) = false) → (((cond (v_told (v_grt p0.1 p0.2)).2 (cond ((v_vals (s_ref05_CopyNet p0)).2 != (0 : Int)) true (!(decide ((v_vals (s_ref05_CopyNet p0)).1 = (v_told (v_grt p0.1 p0.2)).1)))) false) = false) → (((!(cond (v_told (v_grt p0.1 p0.2)).2 (cond ((v_vals (s_ref05_CopyNet p0)).2 != (0 : Int)) true (!(decide ((v_vals (s_ref05_CopyNet p0)).1 = (v_told (v_grt p0.1 p0.2)).1)))) false)) && (!(v_told (v_grt p0.1 p0.2)).2)) = (!(v_told (v_grt p0.1 p0.2)).2)))))),
    (((cond (!(s_law05_fewTies p0)) true (decide ((((List.length p1) : Nat) : Int) > (10 : Int)))) = false) → (((cond ((v_net (s_ref05_CopyNet p0)).2 != (v_net p0).2) true ((v_net (s_ref05_CopyNet p0)).1 != (v_net p0).1)) = false) → ((((v_net p0).2 != (0 : Int)) = false) → (((cond (cond (v_told (v_grt p0.1 p0.2)).2 (cond ((v_vals (s_ref05_CopyNet p0)).2 != (0 : Int)) true (!(decide ((v_vals (s_ref05_CopyNet p0)).1 = (v_told (v_grt p0.1 p0.2)).1)))) false) true (cond (!(v_told (v_grt p0.1 p0.2)).2) (cond ((v_vals (s_ref05_CopyNet p0)).2 != (13 : Int)) true ((((List.length (v_vals (s_ref05_CopyNet p0)).1) : Nat) : Int) != (0 : Int))) false)) = false) → ((v_net p0).2 = (0 : Int))))))]
set_option maxHeartbeats 4000000 in
theorem d_law05_GravityNets (p0 : (Int × (List (Int × (Int × (Int × Int)))))) (p1 : (List Int)) (K : Bool → Prop) (hp : ∀ p ∈ pre_law05_GravityNets p0 p1, p) (h : K (s_law05_GravityNets p0 p1)) : w_law05_GravityNets p0 p1 K := by
  unfold w_law05_GravityNets
  unfold s_law05_GravityNets at h
  obtain ⟨hp0, hp1, hp2, hp3, hp4, hp5, hp6, hp7, _⟩ := conj_of hp
  exact ⟨nof, fun _ => ⟨rf, rf, rfl, (br' h (fun e0 h => h)
    (fun e0 h => ⟨(hp0 e0), (hp0 e0), (hp0 e0), (hp1 e0), rf, rf, rfl, (br' h (fun e1 h => h)
    (fun e1 h => (br' h (fun e2 h => ⟨rf, rf, rfl, rf, rf, rfl, rf, rfl, h⟩)
    (fun e2 h => ⟨(hp2 e0 e1 e2), rf, rf, rf, rf, (hp3 e0 e1 e2), rf, rf, (hp4 e0 e1 e2), rfl, rf, rf, rf, rf, rf, rf, rf, (hp5 e0 e1 e2), rf, (hp6 e0 e1 e2), rfl, (br' h (fun e3 h => h)
    (fun e3 h => ⟨(hp7 e0 e1 e2 e3), rf, rf, rfl, h⟩))⟩))))⟩))⟩⟩
abbrev con_law05_GravityNets : Con := ⟨P_law05_GravityNets, R_law05_GravityNets, fun x => pre_law05_GravityNets x.1 x.2, fun x => s_law05_GravityNets x.1 x.2⟩
theorem ok_law05_GravityNets : ConOk Tryd.prog 6 con_law05_GravityNets := ⟨k_law05_GravityNets, fun x hx => ret_tf (ps := P_law05_GravityNets) (rs := R_law05_GravityNets) (x := x) (y := s_law05_GravityNets x.1 x.2) e_law05_GravityNets hC_law05_GravityNets (tf_of (w_law05_GravityNets_eq x.1 x.2 (fun z => z = s_law05_GravityNets x.1 x.2)) (d_law05_GravityNets x.1 x.2 (fun z => z = s_law05_GravityNets x.1 x.2) hx rfl))⟩
end Go.Proofs.YtcecdmdnfmgnfaaDoor
