/- What the functions that GravitySpans reaches compute: contracts, each function once. No condition. -/
import Derived.Test.YtcecdmdnfmgnfaaDoorLayB
import Derived.Test.YtcecdmdnfmgnfaaDoorRp2GravitySpans
import Derived.KernelRfl
namespace Go.Proofs.YtcecdmdnfmgnfaaDoor
open Go Go.Mx
set_option maxRecDepth 100000
abbrev N5 := (Int × (List (Int × (Int × (Int × Int)))))
abbrev wi (n : Int) : Int := IntKind.i64.wrap n
abbrev zz0 : Int := 0
abbrev zz1 : Int := 1
abbrev zz2 : Int := 2
abbrev zz3 : Int := 3
theorem od {p : Prop} [Decidable p] (h : decide p = true) : p := of_decide_eq_true h
theorem nof {p : Prop} (h : false = true) : p := Bool.noConfusion h
theorem rf {p : Prop} {α : Sort _} {a : α} (_ : p) : a = a := rfl
/- law05_fewTies -/
def C_law05_fewTies : Cons := []
theorem hC_law05_fewTies : ConsOk Tryd.prog C_law05_fewTies := ConsOk.nil
def w_law05_fewTies (p0 : N5) (K : Bool → Prop) : Prop :=
  (K (decide ((List.length p0.2 : Int) ≤ (14 : Int))))
set_option maxHeartbeats 4000000 in
theorem w_law05_fewTies_eq (p0 : N5) (K : Bool → Prop) : tfn F_law05_fewTies A_law05_fewTies C_law05_fewTies P_law05_fewTies R_law05_fewTies p0 K = w_law05_fewTies p0 K := by kernel_rfl
def s_law05_fewTies (p0 : N5) : Bool :=
 (decide ((List.length p0.2 : Int) ≤ (14 : Int)))
abbrev pre_law05_fewTies (p0 : N5) : List Prop := []
set_option maxHeartbeats 4000000 in
theorem d_law05_fewTies (p0 : N5) (K : Bool → Prop) (hp : ∀ p ∈ pre_law05_fewTies p0, p) (h : K (s_law05_fewTies p0)) : w_law05_fewTies p0 K := by
 unfold w_law05_fewTies
 unfold s_law05_fewTies at h
 exact h
abbrev con_law05_fewTies : Con := ⟨P_law05_fewTies, R_law05_fewTies, fun x => pre_law05_fewTies x, fun x => s_law05_fewTies x⟩
theorem ok_law05_fewTies : ConOk Tryd.prog 40 con_law05_fewTies := ⟨k_law05_fewTies, fun x hx => ret_tf (ps := P_law05_fewTies) (rs := R_law05_fewTies) (x := x) (y := s_law05_fewTies x) e_law05_fewTies hC_law05_fewTies (tf_of (w_law05_fewTies_eq x (fun z => z = s_law05_fewTies x)) (d_law05_fewTies x (fun z => z = s_law05_fewTies x) hx rfl))⟩
/- ref05_CopyNet -/
def C_ref05_CopyNet : Cons := []
theorem hC_ref05_CopyNet : ConsOk Tryd.prog C_ref05_CopyNet := ConsOk.nil
def w_ref05_CopyNet (p0 : N5) (K : N5 → Prop) : Prop :=
  (((((List.length ([] : List (Int × (Int × (Int × Int))))) + (List.length p0.2)) * 32) ≤ 140737488355328) ∧
 (K (p0.1, (([] : List (Int × (Int × (Int × Int)))) ++ p0.2))))
set_option maxHeartbeats 4000000 in
theorem w_ref05_CopyNet_eq (p0 : N5) (K : N5 → Prop) : tfn F_ref05_CopyNet A_ref05_CopyNet C_ref05_CopyNet P_ref05_CopyNet R_ref05_CopyNet p0 K = w_ref05_CopyNet p0 K := by kernel_rfl
def s_ref05_CopyNet (p0 : N5) : N5 :=
 (p0.1, (([] : List (Int × (Int × (Int × Int)))) ++ p0.2))
abbrev pre_ref05_CopyNet (p0 : N5) : List Prop := [((((List.length ([] : List (Int × (Int × (Int × Int))))) + (List.length p0.2)) * 32) ≤ 140737488355328)]
set_option maxHeartbeats 4000000 in
theorem d_ref05_CopyNet (p0 : N5) (K : N5 → Prop) (hp : ∀ p ∈ pre_ref05_CopyNet p0, p) (h : K (s_ref05_CopyNet p0)) : w_ref05_CopyNet p0 K := by
 unfold w_ref05_CopyNet
 unfold s_ref05_CopyNet at h
 obtain ⟨hp0, _⟩ := conj_of hp
 exact ⟨(hp0), h⟩
abbrev con_ref05_CopyNet : Con := ⟨P_ref05_CopyNet, R_ref05_CopyNet, fun x => pre_ref05_CopyNet x, fun x => s_ref05_CopyNet x⟩
theorem ok_ref05_CopyNet : ConOk Tryd.prog 42 con_ref05_CopyNet := ⟨k_ref05_CopyNet, fun x hx => ret_tf (ps := P_ref05_CopyNet) (rs := R_ref05_CopyNet) (x := x) (y := s_ref05_CopyNet x) e_ref05_CopyNet hC_ref05_CopyNet (tf_of (w_ref05_CopyNet_eq x (fun z => z = s_ref05_CopyNet x)) (d_ref05_CopyNet x (fun z => z = s_ref05_CopyNet x) hx rfl))⟩
/- gravity_bounds_1 -/
/-- What bounds hands on: of, from, more. -/
def v_bounds : List (Int × Int × Int × Int) → List (Int × Int × Int)
 | [] => []
 | t :: r => (t.2.1, t.1, t.2.2.2) :: (t.1, t.2.1, IntKind.i64.wrap (0 - t.2.2.1)) :: v_bounds r
theorem v_bounds_eq : ∀ l, v_bnds l = (v_bounds l).map (valPs [.agg (.pr (.int .i64) (.pr (.int .i64) (.int .i64)))])
 | [] => rfl
 | t :: r => by simp only [v_bnds, v_bounds, List.map_cons, v_bounds_eq r]; rfl
abbrev con_gravity_bounds_1 : Con := ⟨.fn 141 [.sl (.pr (.int .i64) (.pr (.int .i64) (.pr (.int .i64) (.int .i64))))] :: .agg (.pr (.int .i64) (.pr (.int .i64) (.int .i64))) :: [], [.one (.sl (tyPs (.agg (.pr (.int .i64) (.pr (.int .i64) (.int .i64))) :: [])))], fun x => [x.1.1.length ≤ 1000000], fun x => v_bounds x.1.1⟩
theorem ok_gravity_bounds_1 : ConIOk Tryd.prog 141 con_gravity_bounds_1 := by
 refine ⟨rfl, k_gravity_bounds_1, rfl, fun x hx => ?_⟩
 obtain ⟨h1, _⟩ := conj_of hx
 show Iter Tryd.prog 141 [[.sl 4 (x.1.map (Ty.enc (.pr (.int .i64) (.pr (.int .i64) (.pr (.int .i64) (.int .i64)))))) false]] ((v_bounds x.1).map (valPs [.agg (.pr (.int .i64) (.pr (.int .i64) (.int .i64)))]))
 rw [← v_bounds_eq x.1]
 exact it_bounds x.1 false h1
/- gravity_bounds -/
def C_gravity_bounds : Cons := []
theorem hC_gravity_bounds : ConsOk Tryd.prog C_gravity_bounds := ConsOk.nil
def w_gravity_bounds (p0 : (List (Int × (Int × (Int × Int))))) (K : ((List (Int × (Int × (Int × Int)))) × PUnit) → Prop) : Prop :=
  (K (p0, ()))
set_option maxHeartbeats 4000000 in
theorem w_gravity_bounds_eq (p0 : (List (Int × (Int × (Int × Int))))) (K : ((List (Int × (Int × (Int × Int)))) × PUnit) → Prop) : tfn F_gravity_bounds A_gravity_bounds C_gravity_bounds P_gravity_bounds R_gravity_bounds p0 K = w_gravity_bounds p0 K := by kernel_rfl
def s_gravity_bounds (p0 : (List (Int × (Int × (Int × Int))))) : ((List (Int × (Int × (Int × Int)))) × PUnit) :=
 (p0, ())
abbrev pre_gravity_bounds (p0 : (List (Int × (Int × (Int × Int))))) : List Prop := []
set_option maxHeartbeats 4000000 in
theorem d_gravity_bounds (p0 : (List (Int × (Int × (Int × Int))))) (K : ((List (Int × (Int × (Int × Int)))) × PUnit) → Prop) (hp : ∀ p ∈ pre_gravity_bounds p0, p) (h : K (s_gravity_bounds p0)) : w_gravity_bounds p0 K := by
 unfold w_gravity_bounds
 unfold s_gravity_bounds at h
 exact h
abbrev con_gravity_bounds : Con := ⟨P_gravity_bounds, R_gravity_bounds, fun x => pre_gravity_bounds x, fun x => s_gravity_bounds x⟩
theorem ok_gravity_bounds : ConOk Tryd.prog 139 con_gravity_bounds := ⟨k_gravity_bounds, fun x hx => ret_tf (ps := P_gravity_bounds) (rs := R_gravity_bounds) (x := x) (y := s_gravity_bounds x) e_gravity_bounds hC_gravity_bounds (tf_of (w_gravity_bounds_eq x (fun z => z = s_gravity_bounds x)) (d_gravity_bounds x (fun z => z = s_gravity_bounds x) hx rfl))⟩
/- gravity_lowered -/
def C_gravity_lowered : Cons := [(139, [], con_gravity_bounds), (141, itMark, con_gravity_bounds_1)]
theorem hC_gravity_lowered : ConsOk Tryd.prog C_gravity_lowered := ConsOk.cons ok_gravity_bounds <| ConsOk.consI ok_gravity_bounds_1 <| ConsOk.nil
abbrev q0_gravity_lowered (y3 : ((List Int) × ((List Bool) × Bool))) (z4 : (Int × (Int × Int))) := ((!(List.getD y3.2.1 (Int.toNat z4.1) false)) = (!(List.getD y3.2.1 (Int.toNat z4.1) false)))
def w_gravity_lowered (p0 : (List (Int × (Int × (Int × Int))))) (p1 : (List Int)) (p2 : (List Bool)) (K : (Bool × ((List Int) × (List Bool))) → Prop) : Prop :=
  (∃ n0, (loopP (fun (y1 : (Int × ((List Int) × (List Bool)))) k2 =>
  ((((decide (y1.1 < (wi ((List.length p1 : Int) + zz1)))) = true) →
  (((List.length p0) ≤ 1000000) ∧
   (RngP (fun (y3 : ((List Int) × ((List Bool) × Bool))) (z4 : (Int × (Int × Int))) k5 =>
    ((zz0 ≤ z4.2.1) ∧
    ((z4.2.1 < (List.length y3.2.1 : Int)) ∧
    ((((!(List.getD y3.2.1 (Int.toNat z4.2.1) false)) = true) →
    (k5 y3)) ∧
    (((!(List.getD y3.2.1 (Int.toNat z4.2.1) false)) = false) →
    ((zz0 ≤ z4.2.1) ∧
     ((z4.2.1 < (List.length y3.1 : Int)) ∧
     ((zz0 ≤ z4.1) ∧
     ((z4.1 < (List.length y3.2.1 : Int)) ∧
     ((((!(List.getD y3.2.1 (Int.toNat z4.1) false)) = false) →
     (q0_gravity_lowered y3 z4)) ∧
     ((((!(List.getD y3.2.1 (Int.toNat z4.1) false)) = false) →
     (q0_gravity_lowered y3 z4)) ∧
     ((((!(List.getD y3.2.1 (Int.toNat z4.1) false)) = false) →
     (q0_gravity_lowered y3 z4)) ∧
     ((((!(List.getD y3.2.1 (Int.toNat z4.1) false)) = false) →
     (zz0 ≤ z4.1)) ∧
     ((((!(List.getD y3.2.1 (Int.toNat z4.1) false)) = false) →
     (z4.1 < (List.length y3.1 : Int))) ∧
     ((((!(List.getD y3.2.1 (Int.toNat z4.1) false)) = false) →
     (q0_gravity_lowered y3 z4)) ∧
     ((((!(List.getD y3.2.1 (Int.toNat z4.1) false)) = false) →
     (q0_gravity_lowered y3 z4)) ∧
     ((((!(List.getD y3.2.1 (Int.toNat z4.1) false)) = false) →
     (q0_gravity_lowered y3 z4)) ∧
     ((q0_gravity_lowered y3 z4) ∧
     ((((cond (!(List.getD y3.2.1 (Int.toNat z4.1) false)) true (decide ((wi ((List.getD y3.1 (Int.toNat z4.2.1) zz0) + z4.2.2)) < (List.getD y3.1 (Int.toNat z4.1) zz0)))) = true) →
     ((zz0 ≤ z4.1) ∧
      ((z4.1 < (List.length y3.1 : Int)) ∧
      ((zz0 ≤ z4.1) ∧
      ((z4.1 < (List.length y3.2.1 : Int)) ∧
      (k5 ((List.set y3.1 (Int.toNat z4.1) (wi ((List.getD y3.1 (Int.toNat z4.2.1) zz0) + z4.2.2))), ((List.set y3.2.1 (Int.toNat z4.1) true), true)))))))) ∧
     (((cond (!(List.getD y3.2.1 (Int.toNat z4.1) false)) true (decide ((wi ((List.getD y3.1 (Int.toNat z4.2.1) zz0) + z4.2.2)) < (List.getD y3.1 (Int.toNat z4.1) zz0)))) = false) →
     (k5 y3)))))))))))))))))))))
    (fun (s6 : ((List Int) × ((List Bool) × Bool))) => ((((!s6.2.2) = true) →
    (K (true, (s6.1, s6.2.1)))) ∧
    (((!s6.2.2) = false) →
    (k2 ((wi (y1.1 + zz1)), (s6.1, s6.2.1)))))) (v_bounds p0) (y1.2.1, (y1.2.2, false))))) ∧
  (((decide (y1.1 < (wi ((List.length p1 : Int) + zz1)))) = false) →
  (K (false, y1.2))))) n0 (zz0, (p1, p2))))
set_option maxHeartbeats 4000000 in
theorem w_gravity_lowered_eq (p0 : (List (Int × (Int × (Int × Int))))) (p1 : (List Int)) (p2 : (List Bool)) (K : (Bool × ((List Int) × (List Bool))) → Prop) : tfnN F_gravity_lowered A_gravity_lowered C_gravity_lowered 2 P_gravity_lowered R_gravity_lowered (p0, p1, p2) K = w_gravity_lowered p0 p1 p2 K := by kernel_rfl
def st_gravity_lowered_0 (p0 : (List (Int × (Int × (Int × Int))))) (p1 : (List Int)) (p2 : (List Bool)) (y0 : (Int × ((List Int) × (List Bool)))) (y2 : ((List Int) × ((List Bool) × Bool))) (z2 : (Int × (Int × Int))) : ((List Int) × ((List Bool) × Bool)) ⊕ ((Int × ((List Int) × (List Bool))) ⊕ (Bool × ((List Int) × (List Bool)))) :=
 (cond (!(List.getD y2.2.1 (Int.toNat z2.2.1) false)) (Sum.inl y2)
  (cond (cond (!(List.getD y2.2.1 (Int.toNat z2.1) false)) true (decide ((IntKind.i64.wrap ((List.getD y2.1 (Int.toNat z2.2.1) 0) + z2.2.2)) < (List.getD y2.1 (Int.toNat z2.1) 0)))) (Sum.inl ((List.set y2.1 (Int.toNat z2.1) (IntKind.i64.wrap ((List.getD y2.1 (Int.toNat z2.2.1) 0) + z2.2.2))), ((List.set y2.2.1 (Int.toNat z2.1) true), true)))
  (Sum.inl y2)))
abbrev sp_gravity_lowered_0 (p0 : (List (Int × (Int × (Int × Int))))) (p1 : (List Int)) (p2 : (List Bool)) (y0 : (Int × ((List Int) × (List Bool)))) (y2 : ((List Int) × ((List Bool) × Bool))) (z2 : (Int × (Int × Int))) : List Prop := [((0 : Int) ≤ z2.2.1),
  (z2.2.1 < (List.length y2.2.1 : Int)),
  (((!(List.getD y2.2.1 (Int.toNat z2.2.1) false)) = false) → ((0 : Int) ≤ z2.2.1)),
  (((!(List.getD y2.2.1 (Int.toNat z2.2.1) false)) = false) → (z2.2.1 < (List.length y2.1 : Int))),
  (((!(List.getD y2.2.1 (Int.toNat z2.2.1) false)) = false) → ((0 : Int) ≤ z2.1)),
  (((!(List.getD y2.2.1 (Int.toNat z2.2.1) false)) = false) → (z2.1 < (List.length y2.2.1 : Int))),
  (((!(List.getD y2.2.1 (Int.toNat z2.2.1) false)) = false) → (((!(List.getD y2.2.1 (Int.toNat z2.1) false)) = false) → ((0 : Int) ≤ z2.1))),
  (((!(List.getD y2.2.1 (Int.toNat z2.2.1) false)) = false) → (((!(List.getD y2.2.1 (Int.toNat z2.1) false)) = false) → (z2.1 < (List.length y2.1 : Int)))),
  (((!(List.getD y2.2.1 (Int.toNat z2.2.1) false)) = false) → (((cond (!(List.getD y2.2.1 (Int.toNat z2.1) false)) true (decide ((IntKind.i64.wrap ((List.getD y2.1 (Int.toNat z2.2.1) 0) + z2.2.2)) < (List.getD y2.1 (Int.toNat z2.1) 0)))) = true) → ((0 : Int) ≤ z2.1))),
  (((!(List.getD y2.2.1 (Int.toNat z2.2.1) false)) = false) → (((cond (!(List.getD y2.2.1 (Int.toNat z2.1) false)) true (decide ((IntKind.i64.wrap ((List.getD y2.1 (Int.toNat z2.2.1) 0) + z2.2.2)) < (List.getD y2.1 (Int.toNat z2.1) 0)))) = true) → (z2.1 < (List.length y2.1 : Int)))),
  (((!(List.getD y2.2.1 (Int.toNat z2.2.1) false)) = false) → (((cond (!(List.getD y2.2.1 (Int.toNat z2.1) false)) true (decide ((IntKind.i64.wrap ((List.getD y2.1 (Int.toNat z2.2.1) 0) + z2.2.2)) < (List.getD y2.1 (Int.toNat z2.1) 0)))) = true) → (z2.1 < (List.length y2.2.1 : Int))))]
def sf_gravity_lowered_0 (p0 : (List (Int × (Int × (Int × Int))))) (p1 : (List Int)) (p2 : (List Bool)) (y0 : (Int × ((List Int) × (List Bool)))) (s2 : ((List Int) × ((List Bool) × Bool))) : ((Int × ((List Int) × (List Bool))) ⊕ (Bool × ((List Int) × (List Bool)))) :=
 (cond (!s2.2.2) (Sum.inr (true, (s2.1, s2.2.1)))
  (Sum.inl ((IntKind.i64.wrap (y0.1 + (1 : Int))), (s2.1, s2.2.1))))
abbrev sq_gravity_lowered_0 (p0 : (List (Int × (Int × (Int × Int))))) (p1 : (List Int)) (p2 : (List Bool)) (y0 : (Int × ((List Int) × (List Bool)))) (s2 : ((List Int) × ((List Bool) × Bool))) : List Prop := []
def st_gravity_lowered_1 (p0 : (List (Int × (Int × (Int × Int))))) (p1 : (List Int)) (p2 : (List Bool)) (y0 : (Int × ((List Int) × (List Bool)))) : (Int × ((List Int) × (List Bool))) ⊕ (Bool × ((List Int) × (List Bool))) :=
 (cond (decide (y0.1 < (IntKind.i64.wrap ((List.length p1 : Int) + (1 : Int))))) (rngV (st_gravity_lowered_0 p0 p1 p2 y0) (sf_gravity_lowered_0 p0 p1 p2 y0) (v_bounds p0) (y0.2.1, (y0.2.2, false)))
  (Sum.inr (false, y0.2)))
abbrev sp_gravity_lowered_1 (p0 : (List (Int × (Int × (Int × Int))))) (p1 : (List Int)) (p2 : (List Bool)) (y0 : (Int × ((List Int) × (List Bool)))) : List Prop := [(((decide (y0.1 < (IntKind.i64.wrap ((List.length p1 : Int) + (1 : Int))))) = true) → ((List.length p0) ≤ 1000000)),
  (((decide (y0.1 < (IntKind.i64.wrap ((List.length p1 : Int) + (1 : Int))))) = true) → (OkR (st_gravity_lowered_0 p0 p1 p2 y0) (sp_gravity_lowered_0 p0 p1 p2 y0) (sq_gravity_lowered_0 p0 p1 p2 y0) (v_bounds p0) (y0.2.1, (y0.2.2, false))))]
def s_gravity_lowered (p0 : (List (Int × (Int × (Int × Int))))) (p1 : (List Int)) (p2 : (List Bool)) : (Bool × ((List Int) × (List Bool))) :=
 (lpv (false, ([], [])) (st_gravity_lowered_1 p0 p1 p2) ((0 : Int), (p1, p2)))
abbrev pre_gravity_lowered (p0 : (List (Int × (Int × (Int × Int))))) (p1 : (List Int)) (p2 : (List Bool)) : List Prop := [(OkL (st_gravity_lowered_1 p0 p1 p2) (sp_gravity_lowered_1 p0 p1 p2) ((0 : Int), (p1, p2)))]
set_option maxHeartbeats 4000000 in
theorem d_gravity_lowered (p0 : (List (Int × (Int × (Int × Int))))) (p1 : (List Int)) (p2 : (List Bool)) (K : (Bool × ((List Int) × (List Bool))) → Prop) (hp : ∀ p ∈ pre_gravity_lowered p0 p1 p2, p) (h : K (s_gravity_lowered p0 p1 p2)) : w_gravity_lowered p0 p1 p2 K := by
 unfold w_gravity_lowered
 unfold s_gravity_lowered at h
 obtain ⟨hp0, _⟩ := conj_of hp
 exact (loop_gen (hp0) h (fun y0 k0 hp h => by
 unfold st_gravity_lowered_1 at h; obtain ⟨hp0, hp1, _⟩ := conj_of hp
 exact (br' h (fun e1 h => ⟨(hp0 e1), (rng_gen (hp1 e1) h (fun y2 z2 k2 hp h => by
 unfold st_gravity_lowered_0 at h; obtain ⟨hp0, hp1, hp2, hp3, hp4, hp5, hp6, hp7, hp8, hp9, hp10, _⟩ := conj_of hp
 exact ⟨(hp0), (hp1), (br' h (fun e3 h => h)
  (fun e3 h => ⟨(hp2 e3), (hp3 e3), (hp4 e3), (hp5 e3), rf, rf, rf, (hp6 e3), (hp7 e3), rf, rf, rf, rfl, (br' h (fun e4 h => ⟨(hp8 e3 e4), (hp9 e3 e4), (hp8 e3 e4), (hp10 e3 e4), h⟩)
  (fun e4 h => h))⟩))⟩) (fun s2 hp h => by
 unfold sf_gravity_lowered_0 at h
 exact (br' h (fun e5 h => h)
  (fun e5 h => h))))⟩)
  (fun e1 h => h))))
/-- A bound: of, from, more. One bound is kept; the state: values, which are known, whether something changed. -/
def v_rx (s : List Int × List Bool × Bool) (b : Int × Int × Int) : List Int × List Bool × Bool :=
 cond (s.2.1.getD b.2.1.toNat false && (!(s.2.1.getD b.1.toNat false) || decide (s.1.getD b.2.1.toNat 0 + b.2.2 < s.1.getD b.1.toNat 0)))
  (s.1.set b.1.toNat (s.1.getD b.2.1.toNat 0 + b.2.2), s.2.1.set b.1.toNat true, true) s
def v_rds (bs : List (Int × Int × Int)) (s : List Int × List Bool) : List Int × List Bool × Bool := bs.foldl v_rx (s.1, s.2, false)
def v_lowr (bs : List (Int × Int × Int)) : Nat → List Int × List Bool → Bool × List Int × List Bool
 | 0, s => (false, s)
 | n + 1, s => cond (v_rds bs s).2.2 (v_lowr bs n ((v_rds bs s).1, (v_rds bs s).2.1)) (true, (v_rds bs s).1, (v_rds bs s).2.1)
/-- The bounds of ties. -/
def v_bnd : List (Int × Int × Int × Int) → List (Int × Int × Int)
 | [] => []
 | t :: r => (t.2.1, t.1, t.2.2.2) :: (t.1, t.2.1, 0 - t.2.2.1) :: v_bnd r
structure v_nok (n : Nat) (l : List (Int × Int × Int × Int)) : Prop where
 n1 : 1 ≤ n
 n8 : n ≤ 8
 len : l.length ≤ 12
 all : ∀ t ∈ l, (0 ≤ t.1 ∧ t.1 < n) ∧ (0 ≤ t.2.1 ∧ t.2.1 < n) ∧ t.1 ≠ t.2.1 ∧ (-1000000 ≤ t.2.2.1 ∧ t.2.2.1 ≤ 1000000) ∧ (-1000000 ≤ t.2.2.2 ∧ t.2.2.2 ≤ 1000000) ∧ t.2.2.1 ≤ t.2.2.2
def v_bok (n : Nat) (b : Int × Int × Int) : Prop := (0 ≤ b.1 ∧ b.1 < n) ∧ (0 ≤ b.2.1 ∧ b.2.1 < n) ∧ (-1000000 ≤ b.2.2 ∧ b.2.2 ≤ 1000000)
theorem v_bnd_ok {n : Nat} : ∀ {l : List (Int × Int × Int × Int)}, (∀ t ∈ l, (0 ≤ t.1 ∧ t.1 < n) ∧ (0 ≤ t.2.1 ∧ t.2.1 < n) ∧ t.1 ≠ t.2.1 ∧ (-1000000 ≤ t.2.2.1 ∧ t.2.2.1 ≤ 1000000) ∧ (-1000000 ≤ t.2.2.2 ∧ t.2.2.2 ≤ 1000000) ∧ t.2.2.1 ≤ t.2.2.2) → ∀ b ∈ v_bnd l, v_bok n b
 | [], _, b, hb => by cases hb
 | t :: r, h, b, hb => by
  have ht := h t (by simp)
  simp only [v_bnd, List.mem_cons] at hb
  rcases hb with rfl | rfl | hb
  ·exact ⟨ht.2.1, ht.1, ht.2.2.2.2.1⟩
  ·exact ⟨ht.1, ht.2.1, by simp only; omega⟩
  ·exact v_bnd_ok (fun t ht => h t (by simp [ht])) b hb
theorem v_bnd_len : ∀ l : List (Int × Int × Int × Int), (v_bnd l).length = 2 * l.length
 | [] => rfl
 | _ :: r => by simp only [v_bnd, List.length_cons, v_bnd_len r]; omega
/-- Values are small. -/
structure v_bd (n t : Nat) (v : List Int) (k : List Bool) : Prop where
 vl : v.length = n
 kl : k.length = n
 small : ∀ i, -(t * 1000000 : Int) ≤ v.getD i 0 ∧ v.getD i 0 ≤ t * 1000000
theorem v_rx_bd {n t : Nat} {s : List Int × List Bool × Bool} {b : Int × Int × Int} (h : v_bd n t s.1 s.2.1) (hb : v_bok n b) : v_bd n (t + 1) (v_rx s b).1 (v_rx s b).2.1 := by
 unfold v_rx
 cases (s.2.1.getD b.2.1.toNat false && (!(s.2.1.getD b.1.toNat false) || decide (s.1.getD b.2.1.toNat 0 + b.2.2 < s.1.getD b.1.toNat 0)))
 ·exact ⟨h.vl, h.kl, fun i => by have := h.small i; simp only [cond_false]; omega⟩
 ·refine ⟨by simp [h.vl], by simp [h.kl], fun i => ?_⟩
  simp only [cond_true, List.getD_eq_getElem?_getD, List.getElem?_set]
  have h1 := h.small b.2.1.toNat
  have h2 := h.small i
  simp only [List.getD_eq_getElem?_getD] at h1 h2
  obtain ⟨_, _, hb3⟩ := hb
  split
  ·split
   ·simp only [Option.getD_some]; omega
   ·simp only [Option.getD_none]; omega
  ·omega
theorem v_fold_bd {n : Nat} : ∀ (bs : List (Int × Int × Int)) {t : Nat} {s : List Int × List Bool × Bool}, v_bd n t s.1 s.2.1 → (∀ b ∈ bs, v_bok n b) → v_bd n (t + bs.length) (bs.foldl v_rx s).1 (bs.foldl v_rx s).2.1
 | [], _, _, h, _ => h
 | b :: bs, t, s, h, hb => by
  have := v_fold_bd bs (v_rx_bd h (hb b (by simp))) (fun c hc => hb c (by simp [hc]))
  rw [List.foldl_cons, List.length_cons, show t + (bs.length + 1) = t + 1 + bs.length by omega]
  exact this
theorem v_bounds_bnd {n : Nat} : ∀ {l : List (Int × Int × Int × Int)}, (∀ t ∈ l, (0 ≤ t.1 ∧ t.1 < n) ∧ (0 ≤ t.2.1 ∧ t.2.1 < n) ∧ t.1 ≠ t.2.1 ∧ (-1000000 ≤ t.2.2.1 ∧ t.2.2.1 ≤ 1000000) ∧ (-1000000 ≤ t.2.2.2 ∧ t.2.2.2 ≤ 1000000) ∧ t.2.2.1 ≤ t.2.2.2) → v_bounds l = v_bnd l
 | [], _ => rfl
 | t :: r, h => by
  have ht := h t (by simp)
  simp only [v_bounds, v_bnd]
  rw [wrap_id (by omega) (by omega), v_bounds_bnd fun t ht => h t (by simp [ht])]
theorem l_gravity_lowered_0 (p0 : List (Int × Int × Int × Int)) (p1 : List Int) (p2 : List Bool) (y0 : Int × List Int × List Bool) {n : Nat} : ∀ (bs : List (Int × Int × Int)) {t : Nat} {s : List Int × List Bool × Bool}, v_bd n t s.1 s.2.1 → (∀ b ∈ bs, v_bok n b) → t + bs.length ≤ 1000 →
  OkR (st_gravity_lowered_0 p0 p1 p2 y0) (sp_gravity_lowered_0 p0 p1 p2 y0) (sq_gravity_lowered_0 p0 p1 p2 y0) bs s ∧ rngV (st_gravity_lowered_0 p0 p1 p2 y0) (sf_gravity_lowered_0 p0 p1 p2 y0) bs s = sf_gravity_lowered_0 p0 p1 p2 y0 (bs.foldl v_rx s)
 | [], _, _, _, _, _ => ⟨by simp [OkR, sq_gravity_lowered_0], rfl⟩
 | b :: bs, t, s, h, hb, ht => by
  have hbok := hb b (by simp)
  obtain ⟨b1, b2, b3⟩ := hbok
  have sm1 := h.small b.2.1.toNat
  have vl := h.vl
  have kl := h.kl
  have hst : st_gravity_lowered_0 p0 p1 p2 y0 s b = .inl (v_rx s b) := by
   unfold st_gravity_lowered_0 v_rx
   rw [List.length_cons] at ht
   rw [wrap_id (by omega) (by omega)]
   cases s.2.1.getD b.2.1.toNat false <;> cases s.2.1.getD b.1.toNat false <;> cases decide (s.1.getD b.2.1.toNat 0 + b.2.2 < s.1.getD b.1.toNat 0) <;> rfl
  obtain ⟨i1, i2⟩ := l_gravity_lowered_0 p0 p1 p2 y0 bs (v_rx_bd h (hb b (by simp))) (fun c hc => hb c (by simp [hc])) (by rw [List.length_cons] at ht; omega)
  refine ⟨⟨?_, by rw [hst]; exact i1⟩, ?_⟩
  ·simp only [sp_gravity_lowered_0, List.forall_mem_cons]
   refine ⟨?_, ?_, ?_, ?_, ?_, ?_, ?_, ?_, ?_, ?_, ?_, by simp⟩ <;> (intros; omega)
  ·unfold rngV
   rw [hst]
   exact i2
theorem v_rds_bd {n t : Nat} {bs : List (Int × Int × Int)} {s : List Int × List Bool} (h : v_bd n t s.1 s.2) (hb : ∀ b ∈ bs, v_bok n b) : v_bd n (t + bs.length) (v_rds bs s).1 (v_rds bs s).2.1 := v_fold_bd bs (s := (s.1, s.2, false)) h hb
theorem l_gravity_lowered (p0 : List (Int × Int × Int × Int)) (p1 : List Int) (p2 : List Bool) (hn : v_nok p1.length p0) (h1 : ∀ i, p1.getD i 0 = 0) (h2 : p2.length = p1.length) :
  OkL (st_gravity_lowered_1 p0 p1 p2) (sp_gravity_lowered_1 p0 p1 p2) (0, p1, p2) ∧ s_gravity_lowered p0 p1 p2 = v_lowr (v_bnd p0) (p1.length + 1) (p1, p2) := by
 have n8 := hn.n8
 have hlen := hn.len
 have hbl := v_bnd_len p0
 have hbk := v_bnd_ok hn.all
 have := for_is (dd := (false, (([] : List Int), ([] : List Bool)))) (st := st_gravity_lowered_1 p0 p1 p2) (sp := sp_gravity_lowered_1 p0 p1 p2) (fun i (s : List Int × List Bool) => (i, s)) 0 (p1.length + 1)
  (fun j s => v_bd p1.length (24 * j) s.1 s.2) (fun j s => v_lowr (v_bnd p0) (p1.length + 1 - j) s) (by omega) (by omega) ?_ ?_ (p1, p2) ⟨rfl, h2, fun i => by rw [h1]; omega⟩
 ·exact this
 ·intro s _
  have hd : decide (((p1.length + 1 : Nat) : Int) < IntKind.i64.wrap ((p1.length : Int) + 1)) = false := by rw [wrap_id (by omega) (by omega)]; exact decide_eq_false (by omega)
  refine ⟨by simp only [sp_gravity_lowered_1, List.forall_mem_cons, hd]; simp, ?_⟩
  simp only [st_gravity_lowered_1, hd, cond_false, Nat.sub_self, v_lowr]
 ·intro j s _ hj hs
  have hd : decide ((j : Int) < IntKind.i64.wrap ((p1.length : Int) + 1)) = true := by rw [wrap_id (by omega) (by omega)]; exact decide_eq_true (by omega)
  obtain ⟨g1, g2⟩ := l_gravity_lowered_0 p0 p1 p2 ((j : Int), s) (v_bnd p0) (s := (s.1, s.2, false)) hs hbk (by omega)
  rw [← v_bounds_bnd hn.all] at g1 g2
  have hr := v_rds_bd hs hbk
  refine ⟨by simp only [sp_gravity_lowered_1, List.forall_mem_cons]; exact ⟨fun _ => by omega, fun _ => g1, by simp⟩, ?_⟩
  simp only [st_gravity_lowered_1, hd, cond_true]
  rw [g2, v_bounds_bnd hn.all, show p1.length + 1 - j = p1.length + 1 - (j + 1) + 1 by omega, v_lowr]
  show (∃ t', sf_gravity_lowered_0 p0 p1 p2 ((j : Int), s) (v_rds (v_bnd p0) s) = _ ∧ _) ∨ sf_gravity_lowered_0 p0 p1 p2 ((j : Int), s) (v_rds (v_bnd p0) s) = _
  simp only [sf_gravity_lowered_0, wrap_nat (show (j : Int) ≤ 9223372036854775806 by omega)]
  cases hc : (v_rds (v_bnd p0) s).2.2
  ·exact .inr rfl
  ·refine .inl ⟨_, rfl, ?_, rfl⟩
   rw [show 24 * (j + 1) = 24 * j + 24 by omega]
   exact ⟨hr.vl, hr.kl, fun i => by have := hr.small i; dsimp only; omega⟩
theorem v_lowr_len (bs : List (Int × Int × Int)) : ∀ (n : Nat) (s : List Int × List Bool), (v_lowr bs n s).2.1.length = s.1.length ∧ (v_lowr bs n s).2.2.length = s.2.length
 | 0, s => ⟨rfl, rfl⟩
 | n + 1, s => by
  have key : ∀ (l : List (Int × Int × Int)) (u : List Int × List Bool × Bool), (l.foldl v_rx u).1.length = u.1.length ∧ (l.foldl v_rx u).2.1.length = u.2.1.length := by
   intro l
   induction l with
   | nil => intro u; exact ⟨rfl, rfl⟩
   | cons b l ih =>
    intro u
    rw [List.foldl_cons]
    obtain ⟨i1, i2⟩ := ih (v_rx u b)
    rw [i1, i2]
    unfold v_rx
    cases (u.2.1.getD b.2.1.toNat false && (!(u.2.1.getD b.1.toNat false) || decide (u.1.getD b.2.1.toNat 0 + b.2.2 < u.1.getD b.1.toNat 0))) <;> simp
  obtain ⟨k1, k2⟩ := key bs (s.1, s.2, false)
  rw [v_lowr]
  cases (v_rds bs s).2.2
  ·exact ⟨k1, k2⟩
  ·obtain ⟨i1, i2⟩ := v_lowr_len bs n ((v_rds bs s).1, (v_rds bs s).2.1)
   exact ⟨i1.trans k1, i2.trans k2⟩
structure v_lwok (p0 : List (Int × Int × Int × Int)) (p1 : List Int) (p2 : List Bool) : Prop where
 nok : v_nok p1.length p0
 zero : ∀ i, p1.getD i 0 = 0
 len : p2.length = p1.length
def v_lowl (p0 : List (Int × Int × Int × Int)) (p1 : List Int) (p2 : List Bool) : Bool × List Int × List Bool := v_lowr (v_bnd p0) (p1.length + 1) (p1, p2)
abbrev t_gravity_lowered (p0 : List (Int × Int × Int × Int)) (p1 : List Int) (p2 : List Bool) : Bool × List Int × List Bool := v_lowl p0 p1 p2
abbrev qre_gravity_lowered (p0 : List (Int × Int × Int × Int)) (p1 : List Int) (p2 : List Bool) : List Prop := [v_lwok p0 p1 p2]
theorem pp_gravity_lowered (p0 : List (Int × Int × Int × Int)) (p1 : List Int) (p2 : List Bool) (hq : ∀ p ∈ qre_gravity_lowered p0 p1 p2, p) : ∀ p ∈ pre_gravity_lowered p0 p1 p2, p := by
 simp only [pre_gravity_lowered, List.forall_mem_cons]
 obtain ⟨h1, h2, h3⟩ := (conj_of hq).1
 exact ⟨(l_gravity_lowered p0 p1 p2 h1 h2 h3).1, by simp⟩
theorem tt_gravity_lowered (p0 : List (Int × Int × Int × Int)) (p1 : List Int) (p2 : List Bool) (hq : ∀ p ∈ qre_gravity_lowered p0 p1 p2, p) : s_gravity_lowered p0 p1 p2 = t_gravity_lowered p0 p1 p2 := by
 obtain ⟨h1, h2, h3⟩ := (conj_of hq).1
 exact (l_gravity_lowered p0 p1 p2 h1 h2 h3).2
theorem hl_gravity_lowered (p0 : List (Int × Int × Int × Int)) (p1 : List Int) (p2 : List Bool) (_ : ∀ p ∈ qre_gravity_lowered p0 p1 p2, p) : ((valPs R_gravity_lowered (t_gravity_lowered p0 p1 p2)).drop (R_gravity_lowered.length - 2)).map (fun v => (slEs v).length) = ((valPs P_gravity_lowered (p0, p1, p2)).drop (P_gravity_lowered.length - 2)).map (fun v => (slEs v).length) := by
 obtain ⟨i1, i2⟩ := v_lowr_len (v_bnd p0) (p1.length + 1) (p1, p2)
 simp [valPs, valP, slEs, Ty.enc, t_gravity_lowered, v_lowl, i1, i2]

abbrev con_gravity_lowered : Con := ⟨P_gravity_lowered, R_gravity_lowered, fun x => qre_gravity_lowered x.1 x.2.1 x.2.2, fun x => t_gravity_lowered x.1 x.2.1 x.2.2⟩
theorem ok_gravity_lowered : ConNOk Tryd.prog 133 2 con_gravity_lowered := conN_tf k_gravity_lowered e_gravity_lowered hC_gravity_lowered con_gravity_lowered (by decide) (by decide) rfl rfl (fun x hx => tfN_of (w_gravity_lowered_eq x.1 x.2.1 x.2.2 (fun z => z = t_gravity_lowered x.1 x.2.1 x.2.2)) (d_gravity_lowered x.1 x.2.1 x.2.2 (fun z => z = t_gravity_lowered x.1 x.2.1 x.2.2) (pp_gravity_lowered x.1 x.2.1 x.2.2 hx) (tt_gravity_lowered x.1 x.2.1 x.2.2 hx))) (fun x hx => hl_gravity_lowered x.1 x.2.1 x.2.2 hx)
/- gravity_greatest -/
def C_gravity_greatest : Cons := [(134, ownMark, con_slices_Repeatbool_bool), (133, nMark 2, con_gravity_lowered)]
theorem hC_gravity_greatest : ConsOk Tryd.prog C_gravity_greatest := ConsOk.consO ok_slices_Repeatbool_bool <| ConsOk.consN ok_gravity_lowered <| ConsOk.nil
def w_gravity_greatest (p0 : Int) (p1 : (List (Int × (Int × (Int × Int))))) (K : ((List Int) × Bool) → Prop) : Prop :=
  (((0 : Int) ≤ p0) ∧
 ((((8 : Int) * p0) ≤ (281474976710656 : Int)) ∧
 ((p0 ≤ (9223372036854775807 : Int)) ∧
 (((List.length (true :: ([] : List Bool))) = 1) ∧
 (((0 : Int) ≤ p0) ∧
 ((p0 ≤ (1000000 : Int)) ∧
 ((0 < (List.length (List.replicate (Int.toNat p0) (0 : Int)))) ∧
 ((0 < (List.length (List.replicate (Int.toNat p0) true))) ∧
 ((v_lwok p1 (List.replicate (Int.toNat p0) (0 : Int)) (List.replicate (Int.toNat p0) true)) ∧
 (K ((v_lowl p1 (List.replicate (Int.toNat p0) (0 : Int)) (List.replicate (Int.toNat p0) true)).2.1, (v_lowl p1 (List.replicate (Int.toNat p0) (0 : Int)) (List.replicate (Int.toNat p0) true)).1)))))))))))
set_option maxHeartbeats 4000000 in
theorem w_gravity_greatest_eq (p0 : Int) (p1 : (List (Int × (Int × (Int × Int))))) (K : ((List Int) × Bool) → Prop) : tfn F_gravity_greatest A_gravity_greatest C_gravity_greatest P_gravity_greatest R_gravity_greatest (p0, p1) K = w_gravity_greatest p0 p1 K := by kernel_rfl
def s_gravity_greatest (p0 : Int) (p1 : (List (Int × (Int × (Int × Int))))) : ((List Int) × Bool) :=
 ((v_lowl p1 (List.replicate (Int.toNat p0) (0 : Int)) (List.replicate (Int.toNat p0) true)).2.1, (v_lowl p1 (List.replicate (Int.toNat p0) (0 : Int)) (List.replicate (Int.toNat p0) true)).1)
abbrev pre_gravity_greatest (p0 : Int) (p1 : (List (Int × (Int × (Int × Int))))) : List Prop := [((0 : Int) ≤ p0),
  (((8 : Int) * p0) ≤ (281474976710656 : Int)),
  (p0 ≤ (9223372036854775807 : Int)),
  ((List.length (true :: ([] : List Bool))) = 1),
  (p0 ≤ (1000000 : Int)),
  (0 < (List.length (List.replicate (Int.toNat p0) (0 : Int)))),
  (0 < (List.length (List.replicate (Int.toNat p0) true))),
  (v_lwok p1 (List.replicate (Int.toNat p0) (0 : Int)) (List.replicate (Int.toNat p0) true))]
set_option maxHeartbeats 4000000 in
theorem d_gravity_greatest (p0 : Int) (p1 : (List (Int × (Int × (Int × Int))))) (K : ((List Int) × Bool) → Prop) (hp : ∀ p ∈ pre_gravity_greatest p0 p1, p) (h : K (s_gravity_greatest p0 p1)) : w_gravity_greatest p0 p1 K := by
 unfold w_gravity_greatest
 unfold s_gravity_greatest at h
 obtain ⟨hp0, hp1, hp2, hp3, hp4, hp5, hp6, hp7, _⟩ := conj_of hp
 exact ⟨(hp0), (hp1), (hp2), (hp3), (hp0), (hp4), (hp5), (hp6), (hp7), h⟩
/-- The greatest values of at most 0; false: there are none. -/
def v_grt (n : Int) (l : List (Int × Int × Int × Int)) : List Int × Bool := ((v_lowl l (List.replicate n.toNat 0) (List.replicate n.toNat true)).2.1, (v_lowl l (List.replicate n.toNat 0) (List.replicate n.toNat true)).1)
def v_nokI (n : Int) (l : List (Int × Int × Int × Int)) : Prop := v_nok n.toNat l ∧ 0 ≤ n
theorem v_lwok_of {n : Int} {l : List (Int × Int × Int × Int)} {k : List Bool} (h : v_nokI n l) (hk : k.length = n.toNat) : v_lwok l (List.replicate n.toNat 0) k :=
 ⟨by rw [List.length_replicate]; exact h.1, fun i => by simp [List.getD_eq_getElem?_getD, List.getElem?_replicate]; split <;> rfl, by rw [List.length_replicate]; exact hk⟩
/-- The ties with some indexes. -/
def v_pick (l : List (Int × Int × Int × Int)) (set : List Int) : List (Int × Int × Int × Int) := set.map fun i => l.getD i.toNat (0, 0, 0, 0)
structure v_setok (n : Int) (l : List (Int × Int × Int × Int)) (set : List Int) : Prop where
 nok : v_nokI n l
 few : set.length ≤ 12
 idx : ∀ i ∈ set, 0 ≤ i ∧ i < l.length
theorem v_setok.pick {n : Int} {l : List (Int × Int × Int × Int)} {set : List Int} (h : v_setok n l set) : v_nokI n (v_pick l set) := by
 refine ⟨⟨h.nok.1.n1, h.nok.1.n8, by simpa [v_pick] using h.few, fun t ht => ?_⟩, h.nok.2⟩
 obtain ⟨i, hi, rfl⟩ := List.mem_map.1 ht
 have := h.idx i hi
 exact h.nok.1.all _ (getD_mem' _ (by omega))
abbrev t_gravity_greatest (p0 : Int) (p1 : List (Int × Int × Int × Int)) : List Int × Bool := v_grt p0 p1
abbrev qre_gravity_greatest (p0 : Int) (p1 : List (Int × Int × Int × Int)) : List Prop := [v_nokI p0 p1]
theorem pp_gravity_greatest (p0 : Int) (p1 : List (Int × Int × Int × Int)) (hq : ∀ p ∈ qre_gravity_greatest p0 p1, p) : ∀ p ∈ pre_gravity_greatest p0 p1, p := by
 have h := (conj_of hq).1
 have h1 := h.1.n1
 have h8 := h.1.n8
 have h0 := h.2
 simp only [pre_gravity_greatest, List.forall_mem_cons, List.length_replicate]
 exact ⟨by omega, by omega, by omega, rfl, by omega, by omega, by omega, v_lwok_of h (by simp), by simp⟩
theorem tt_gravity_greatest (p0 : Int) (p1 : List (Int × Int × Int × Int)) (_ : ∀ p ∈ qre_gravity_greatest p0 p1, p) : s_gravity_greatest p0 p1 = t_gravity_greatest p0 p1 := rfl

abbrev con_gravity_greatest : Con := ⟨P_gravity_greatest, R_gravity_greatest, fun x => qre_gravity_greatest x.1 x.2, fun x => t_gravity_greatest x.1 x.2⟩
theorem ok_gravity_greatest : ConOk Tryd.prog 106 con_gravity_greatest := ⟨k_gravity_greatest, fun x hx => ret_tf (ps := P_gravity_greatest) (rs := R_gravity_greatest) (x := x) (y := t_gravity_greatest x.1 x.2) e_gravity_greatest hC_gravity_greatest (tf_of (w_gravity_greatest_eq x.1 x.2 (fun z => z = t_gravity_greatest x.1 x.2)) (d_gravity_greatest x.1 x.2 (fun z => z = t_gravity_greatest x.1 x.2) (pp_gravity_greatest x.1 x.2 hx) (tt_gravity_greatest x.1 x.2 hx)))⟩
/- gravity_within -/
def C_gravity_within : Cons := []
theorem hC_gravity_within : ConsOk Tryd.prog C_gravity_within := ConsOk.nil
def w_gravity_within (p0 : Int) (p1 : Int) (p2 : Int) (K : Bool → Prop) : Prop :=
  ((((decide (p1 ≤ p0)) = true) →
 ((decide (p1 ≤ p0)) = (decide (p1 ≤ p0)))) ∧
 ((((decide (p1 ≤ p0)) = true) →
 ((decide (p1 ≤ p0)) = (decide (p1 ≤ p0)))) ∧
 (((decide (p1 ≤ p0)) = (decide (p1 ≤ p0))) ∧
 (K (cond (decide (p1 ≤ p0)) (decide (p0 ≤ p2)) false)))))
set_option maxHeartbeats 4000000 in
theorem w_gravity_within_eq (p0 : Int) (p1 : Int) (p2 : Int) (K : Bool → Prop) : tfn F_gravity_within A_gravity_within C_gravity_within P_gravity_within R_gravity_within (p0, p1, p2) K = w_gravity_within p0 p1 p2 K := by kernel_rfl
def s_gravity_within (p0 : Int) (p1 : Int) (p2 : Int) : Bool :=
 (cond (decide (p1 ≤ p0)) (decide (p0 ≤ p2)) false)
abbrev pre_gravity_within (p0 : Int) (p1 : Int) (p2 : Int) : List Prop := []
set_option maxHeartbeats 4000000 in
theorem d_gravity_within (p0 : Int) (p1 : Int) (p2 : Int) (K : Bool → Prop) (hp : ∀ p ∈ pre_gravity_within p0 p1 p2, p) (h : K (s_gravity_within p0 p1 p2)) : w_gravity_within p0 p1 p2 K := by
 unfold w_gravity_within
 unfold s_gravity_within at h
 exact ⟨rf, rf, rfl, h⟩
abbrev con_gravity_within : Con := ⟨P_gravity_within, R_gravity_within, fun x => pre_gravity_within x.1 x.2.1 x.2.2, fun x => s_gravity_within x.1 x.2.1 x.2.2⟩
theorem ok_gravity_within : ConOk Tryd.prog 94 con_gravity_within := ⟨k_gravity_within, fun x hx => ret_tf (ps := P_gravity_within) (rs := R_gravity_within) (x := x) (y := s_gravity_within x.1 x.2.1 x.2.2) e_gravity_within hC_gravity_within (tf_of (w_gravity_within_eq x.1 x.2.1 x.2.2 (fun z => z = s_gravity_within x.1 x.2.1 x.2.2)) (d_gravity_within x.1 x.2.1 x.2.2 (fun z => z = s_gravity_within x.1 x.2.1 x.2.2) hx rfl))⟩
theorem tx_within {n lo hi : Int} : s_gravity_within n lo hi = true ↔ lo ≤ n ∧ n ≤ hi := by unfold s_gravity_within; simp
/- gravity_unless -/
def C_gravity_unless : Cons := []
theorem hC_gravity_unless : ConsOk Tryd.prog C_gravity_unless := ConsOk.nil
def w_gravity_unless (p0 : Bool) (p1 : Int) (K : Int → Prop) : Prop :=
  (((p0 = true) →
 (K (0 : Int))) ∧
 ((p0 = false) →
 (K p1)))
set_option maxHeartbeats 4000000 in
theorem w_gravity_unless_eq (p0 : Bool) (p1 : Int) (K : Int → Prop) : tfn F_gravity_unless A_gravity_unless C_gravity_unless P_gravity_unless R_gravity_unless (p0, p1) K = w_gravity_unless p0 p1 K := by kernel_rfl
def s_gravity_unless (p0 : Bool) (p1 : Int) : Int :=
 (cond p0 (0 : Int)
  p1)
abbrev pre_gravity_unless (p0 : Bool) (p1 : Int) : List Prop := []
set_option maxHeartbeats 4000000 in
theorem d_gravity_unless (p0 : Bool) (p1 : Int) (K : Int → Prop) (hp : ∀ p ∈ pre_gravity_unless p0 p1, p) (h : K (s_gravity_unless p0 p1)) : w_gravity_unless p0 p1 K := by
 unfold w_gravity_unless
 unfold s_gravity_unless at h
 exact (br' h (fun e0 h => h)
  (fun e0 h => h))
abbrev con_gravity_unless : Con := ⟨P_gravity_unless, R_gravity_unless, fun x => pre_gravity_unless x.1 x.2, fun x => s_gravity_unless x.1 x.2⟩
theorem ok_gravity_unless : ConOk Tryd.prog 89 con_gravity_unless := ⟨k_gravity_unless, fun x hx => ret_tf (ps := P_gravity_unless) (rs := R_gravity_unless) (x := x) (y := s_gravity_unless x.1 x.2) e_gravity_unless hC_gravity_unless (tf_of (w_gravity_unless_eq x.1 x.2 (fun z => z = s_gravity_unless x.1 x.2)) (d_gravity_unless x.1 x.2 (fun z => z = s_gravity_unless x.1 x.2) hx rfl))⟩
theorem tx_unless0' {a : Bool} {x : Int} (hx : x ≠ 0) (h : s_gravity_unless a x = 0) : a = true := by
 cases a
 ·exact (hx h).elim
 ·rfl
theorem tx_andU {a b : Bool} (h : (cond a b false) = true) : a = true ∧ b = true := by cases a <;> simp_all
/- gravity_first -/
def C_gravity_first : Cons := []
theorem hC_gravity_first : ConsOk Tryd.prog C_gravity_first := ConsOk.nil
def w_gravity_first (p0 : (List Int)) (K : Int → Prop) : Prop :=
  (∃ n0, (loopP (fun (y1 : Int) k2 =>
  ((((decide (y1 < (List.length p0 : Int))) = true) →
  (((0 : Int) ≤ y1) ∧
   ((y1 < (List.length p0 : Int)) ∧
   (((((List.getD p0 (Int.toNat y1) 0) != (0 : Int)) = true) →
   (K (List.getD p0 (Int.toNat y1) 0))) ∧
   ((((List.getD p0 (Int.toNat y1) 0) != (0 : Int)) = false) →
   (k2 (IntKind.i64.wrap (y1 + (1 : Int))))))))) ∧
  (((decide (y1 < (List.length p0 : Int))) = false) →
  (K (0 : Int))))) n0 (0 : Int)))
set_option maxHeartbeats 4000000 in
theorem w_gravity_first_eq (p0 : (List Int)) (K : Int → Prop) : tfn F_gravity_first A_gravity_first C_gravity_first P_gravity_first R_gravity_first p0 K = w_gravity_first p0 K := by kernel_rfl
def st_gravity_first_0 (p0 : (List Int)) (y0 : Int) : Int ⊕ Int :=
 (cond (decide (y0 < (List.length p0 : Int))) (cond ((List.getD p0 (Int.toNat y0) 0) != (0 : Int)) (Sum.inr (List.getD p0 (Int.toNat y0) 0))
  (Sum.inl (IntKind.i64.wrap (y0 + (1 : Int)))))
  (Sum.inr (0 : Int)))
abbrev sp_gravity_first_0 (p0 : (List Int)) (y0 : Int) : List Prop := [(((decide (y0 < (List.length p0 : Int))) = true) → ((0 : Int) ≤ y0)),
  (((decide (y0 < (List.length p0 : Int))) = true) → (y0 < (List.length p0 : Int)))]
def s_gravity_first (p0 : (List Int)) : Int :=
 (lpv (0 : Int) (st_gravity_first_0 p0) (0 : Int))
abbrev pre_gravity_first (p0 : (List Int)) : List Prop := [(OkL (st_gravity_first_0 p0) (sp_gravity_first_0 p0) (0 : Int))]
set_option maxHeartbeats 4000000 in
theorem d_gravity_first (p0 : (List Int)) (K : Int → Prop) (hp : ∀ p ∈ pre_gravity_first p0, p) (h : K (s_gravity_first p0)) : w_gravity_first p0 K := by
 unfold w_gravity_first
 unfold s_gravity_first at h
 obtain ⟨hp0, _⟩ := conj_of hp
 exact (loop_gen (hp0) h (fun y0 k0 hp h => by
 unfold st_gravity_first_0 at h; obtain ⟨hp0, hp1, _⟩ := conj_of hp
 exact (br' h (fun e1 h => ⟨(hp0 e1), (hp1 e1), (br' h (fun e2 h => h)
  (fun e2 h => h))⟩)
  (fun e1 h => h))))
theorem l_gravity_first_0 (p0 : List Int) (hl : lenOk p0) : OkL (st_gravity_first_0 p0) (sp_gravity_first_0 p0) 0 ∧ lpv (0 : Int) (st_gravity_first_0 p0) 0 = v_scan (fun _ x => cond (x != 0) (some x) none) (0 : Int) 0 p0 := by
 refine scan_is p0 0 (fun _ x => cond (x != 0) (some x) none) (0 : Int) hl ?_ ?_
 ·refine ⟨by simp only [sp_gravity_first_0, List.forall_mem_cons, decide_eq_true_eq]; simp, by simp [st_gravity_first_0]⟩
 ·intro j hj
  have hj' : (j : Int) < p0.length := by omega
  refine ⟨by simp only [sp_gravity_first_0, List.forall_mem_cons, decide_eq_true_eq, Int.toNat_natCast]; simp <;> omega, ?_⟩
  simp only [st_gravity_first_0, hj', decide_true, Int.toNat_natCast, cond_true, wrap_nat (show (j : Int) ≤ 9223372036854775806 by unfold lenOk at hl; omega)]
  generalize p0.getD j 0 = x
  cases (x != 0) <;> rfl
abbrev t_gravity_first (p0 : List Int) : Int := v_first p0
abbrev qre_gravity_first (p0 : List Int) : List Prop := [lenOk p0]
theorem pp_gravity_first (p0 : List Int) (hq : ∀ p ∈ qre_gravity_first p0, p) : ∀ p ∈ pre_gravity_first p0, p := by
 simp only [pre_gravity_first, List.forall_mem_cons]
 exact ⟨(l_gravity_first_0 p0 (conj_of hq).1).1, by simp⟩
theorem tt_gravity_first (p0 : List Int) (hq : ∀ p ∈ qre_gravity_first p0, p) : s_gravity_first p0 = t_gravity_first p0 := by
 exact (l_gravity_first_0 p0 (conj_of hq).1).2.trans (v_first_scan p0 0)

abbrev con_gravity_first : Con := ⟨P_gravity_first, R_gravity_first, fun x => qre_gravity_first x, fun x => t_gravity_first x⟩
theorem ok_gravity_first : ConOk Tryd.prog 88 con_gravity_first := ⟨k_gravity_first, fun x hx => ret_tf (ps := P_gravity_first) (rs := R_gravity_first) (x := x) (y := t_gravity_first x) e_gravity_first hC_gravity_first (tf_of (w_gravity_first_eq x (fun z => z = t_gravity_first x)) (d_gravity_first x (fun z => z = t_gravity_first x) (pp_gravity_first x hx) (tt_gravity_first x hx)))⟩
/- gravity_isSized -/
def C_gravity_isSized : Cons := [(94, [], con_gravity_within)]
theorem hC_gravity_isSized : ConsOk Tryd.prog C_gravity_isSized := ConsOk.cons ok_gravity_within <| ConsOk.nil
def w_gravity_isSized (p0 : Int) (p1 : Int) (K : Bool → Prop) : Prop :=
  (K (s_gravity_within p0 (IntKind.i64.wrap ((0 : Int) - p1)) p1))
set_option maxHeartbeats 4000000 in
theorem w_gravity_isSized_eq (p0 : Int) (p1 : Int) (K : Bool → Prop) : tfn F_gravity_isSized A_gravity_isSized C_gravity_isSized P_gravity_isSized R_gravity_isSized (p0, p1) K = w_gravity_isSized p0 p1 K := by kernel_rfl
def s_gravity_isSized (p0 : Int) (p1 : Int) : Bool :=
 (s_gravity_within p0 (IntKind.i64.wrap ((0 : Int) - p1)) p1)
abbrev pre_gravity_isSized (p0 : Int) (p1 : Int) : List Prop := []
set_option maxHeartbeats 4000000 in
theorem d_gravity_isSized (p0 : Int) (p1 : Int) (K : Bool → Prop) (hp : ∀ p ∈ pre_gravity_isSized p0 p1, p) (h : K (s_gravity_isSized p0 p1)) : w_gravity_isSized p0 p1 K := by
 unfold w_gravity_isSized
 unfold s_gravity_isSized at h
 exact h
abbrev con_gravity_isSized : Con := ⟨P_gravity_isSized, R_gravity_isSized, fun x => pre_gravity_isSized x.1 x.2, fun x => s_gravity_isSized x.1 x.2⟩
theorem ok_gravity_isSized : ConOk Tryd.prog 93 con_gravity_isSized := ⟨k_gravity_isSized, fun x hx => ret_tf (ps := P_gravity_isSized) (rs := R_gravity_isSized) (x := x) (y := s_gravity_isSized x.1 x.2) e_gravity_isSized hC_gravity_isSized (tf_of (w_gravity_isSized_eq x.1 x.2 (fun z => z = s_gravity_isSized x.1 x.2)) (d_gravity_isSized x.1 x.2 (fun z => z = s_gravity_isSized x.1 x.2) hx rfl))⟩
/- gravity_rangeErr -/
def C_gravity_rangeErr : Cons := [(93, [], con_gravity_isSized), (89, [], con_gravity_unless), (88, [], con_gravity_first)]
theorem hC_gravity_rangeErr : ConsOk Tryd.prog C_gravity_rangeErr := ConsOk.cons ok_gravity_isSized <| ConsOk.cons ok_gravity_unless <| ConsOk.cons ok_gravity_first <| ConsOk.nil
def w_gravity_rangeErr (p0 : (Int × Int)) (p1 : Int) (K : Int → Prop) : Prop :=
  ((((s_gravity_isSized p0.1 p1) = true) →
 ((s_gravity_isSized p0.1 p1) = (s_gravity_isSized p0.1 p1))) ∧
 ((((s_gravity_isSized p0.1 p1) = true) →
 ((s_gravity_isSized p0.1 p1) = (s_gravity_isSized p0.1 p1))) ∧
 ((((s_gravity_isSized p0.1 p1) = true) →
 ((s_gravity_isSized p0.1 p1) = (s_gravity_isSized p0.1 p1))) ∧
 (((s_gravity_isSized p0.1 p1) = (s_gravity_isSized p0.1 p1)) ∧
 ((lenOk ((s_gravity_unless (cond (s_gravity_isSized p0.1 p1) (s_gravity_isSized p0.2 p1) false) (2 : Int)) :: ((s_gravity_unless (decide (p0.1 ≤ p0.2)) (9 : Int)) :: ([] : List Int)))) ∧
 (K (v_first ((s_gravity_unless (cond (s_gravity_isSized p0.1 p1) (s_gravity_isSized p0.2 p1) false) (2 : Int)) :: ((s_gravity_unless (decide (p0.1 ≤ p0.2)) (9 : Int)) :: ([] : List Int))))))))))
set_option maxHeartbeats 4000000 in
theorem w_gravity_rangeErr_eq (p0 : (Int × Int)) (p1 : Int) (K : Int → Prop) : tfn F_gravity_rangeErr A_gravity_rangeErr C_gravity_rangeErr P_gravity_rangeErr R_gravity_rangeErr (p0, p1) K = w_gravity_rangeErr p0 p1 K := by kernel_rfl
def s_gravity_rangeErr (p0 : (Int × Int)) (p1 : Int) : Int :=
 (v_first ((s_gravity_unless (cond (s_gravity_isSized p0.1 p1) (s_gravity_isSized p0.2 p1) false) (2 : Int)) :: ((s_gravity_unless (decide (p0.1 ≤ p0.2)) (9 : Int)) :: ([] : List Int))))
abbrev pre_gravity_rangeErr (p0 : (Int × Int)) (p1 : Int) : List Prop := []
set_option maxHeartbeats 4000000 in
theorem d_gravity_rangeErr (p0 : (Int × Int)) (p1 : Int) (K : Int → Prop) (hp : ∀ p ∈ pre_gravity_rangeErr p0 p1, p) (h : K (s_gravity_rangeErr p0 p1)) : w_gravity_rangeErr p0 p1 K := by
 unfold w_gravity_rangeErr
 unfold s_gravity_rangeErr at h
 exact ⟨rf, rf, rf, rfl, (lenOk_of 2 rfl (by decide)), h⟩
abbrev con_gravity_rangeErr : Con := ⟨P_gravity_rangeErr, R_gravity_rangeErr, fun x => pre_gravity_rangeErr x.1 x.2, fun x => s_gravity_rangeErr x.1 x.2⟩
theorem ok_gravity_rangeErr : ConOk Tryd.prog 98 con_gravity_rangeErr := ⟨k_gravity_rangeErr, fun x hx => ret_tf (ps := P_gravity_rangeErr) (rs := R_gravity_rangeErr) (x := x) (y := s_gravity_rangeErr x.1 x.2) e_gravity_rangeErr hC_gravity_rangeErr (tf_of (w_gravity_rangeErr_eq x.1 x.2 (fun z => z = s_gravity_rangeErr x.1 x.2)) (d_gravity_rangeErr x.1 x.2 (fun z => z = s_gravity_rangeErr x.1 x.2) hx rfl))⟩
theorem tx_within' {n lo hi : Int} : s_gravity_within n lo hi = true ↔ lo ≤ n ∧ n ≤ hi := by unfold s_gravity_within; simp
theorem tx_range3 {x : Int × Int} (h : s_gravity_rangeErr x 1000000 = 0) : (-1000000 ≤ x.1 ∧ x.1 ≤ 1000000) ∧ (-1000000 ≤ x.2 ∧ x.2 ≤ 1000000) ∧ x.1 ≤ x.2 := by
 unfold s_gravity_rangeErr s_gravity_isSized at h
 rw [show IntKind.i64.wrap (0 - 1000000) = -1000000 from rfl] at h
 obtain ⟨h1, h⟩ := v_first0 h
 obtain ⟨h2, _⟩ := v_first0 h
 cases a : s_gravity_within x.1 (-1000000) 1000000 <;> cases b : s_gravity_within x.2 (-1000000) 1000000 <;> by_cases c : x.1 ≤ x.2 <;> simp [s_gravity_unless, a, b, c] at h1 h2
 exact ⟨tx_within'.1 a, tx_within'.1 b, c⟩
/- gravity_CheckNet -/
def C_gravity_CheckNet : Cons := [(94, [], con_gravity_within), (89, [], con_gravity_unless), (88, [], con_gravity_first), (98, [], con_gravity_rangeErr)]
theorem hC_gravity_CheckNet : ConsOk Tryd.prog C_gravity_CheckNet := ConsOk.cons ok_gravity_within <| ConsOk.cons ok_gravity_unless <| ConsOk.cons ok_gravity_first <| ConsOk.cons ok_gravity_rangeErr <| ConsOk.nil
abbrev q0_gravity_CheckNet (p0 : N5) (y1 : Int) := (List.getD p0.2 (Int.toNat y1) (zz0, (zz0, (zz0, zz0))))
abbrev q1_gravity_CheckNet (p0 : N5) (y1 : Int) := ((s_gravity_unless ((q0_gravity_CheckNet p0 y1).1 != (q0_gravity_CheckNet p0 y1).2.1) (13 : Int)) :: ((s_gravity_rangeErr (q0_gravity_CheckNet p0 y1).2.2 (1000000 : Int)) :: ([] : List Int)))
abbrev q2_gravity_CheckNet (p0 : N5) := ((s_gravity_unless (s_gravity_within p0.1 zz1 (8 : Int)) zz2) :: ((s_gravity_unless (decide ((List.length p0.2 : Int) ≤ (12 : Int))) (8 : Int)) :: ([] : List Int)))
def w_gravity_CheckNet (p0 : N5) (K : (Int × Int) → Prop) : Prop :=
  ((lenOk (q2_gravity_CheckNet p0)) ∧
 (((((v_first (q2_gravity_CheckNet p0)) != zz0) = true) →
 (K (zz0, (v_first (q2_gravity_CheckNet p0))))) ∧
 ((((v_first (q2_gravity_CheckNet p0)) != zz0) = false) →
 (∃ n0, (loopP (fun (y1 : Int) k2 =>
   ((((decide (y1 < (List.length p0.2 : Int))) = true) →
   ((zz0 ≤ y1) ∧
    ((y1 < (List.length p0.2 : Int)) ∧
    ((((s_gravity_within (q0_gravity_CheckNet p0 y1).1 zz0 (wi (p0.1 - zz1))) = true) →
    ((s_gravity_within (q0_gravity_CheckNet p0 y1).1 zz0 (wi (p0.1 - zz1))) = (s_gravity_within (q0_gravity_CheckNet p0 y1).1 zz0 (wi (p0.1 - zz1))))) ∧
    ((((s_gravity_within (q0_gravity_CheckNet p0 y1).1 zz0 (wi (p0.1 - zz1))) = true) →
    ((s_gravity_within (q0_gravity_CheckNet p0 y1).1 zz0 (wi (p0.1 - zz1))) = (s_gravity_within (q0_gravity_CheckNet p0 y1).1 zz0 (wi (p0.1 - zz1))))) ∧
    ((((s_gravity_within (q0_gravity_CheckNet p0 y1).1 zz0 (wi (p0.1 - zz1))) = true) →
    ((s_gravity_within (q0_gravity_CheckNet p0 y1).1 zz0 (wi (p0.1 - zz1))) = (s_gravity_within (q0_gravity_CheckNet p0 y1).1 zz0 (wi (p0.1 - zz1))))) ∧
    ((((s_gravity_within (q0_gravity_CheckNet p0 y1).1 zz0 (wi (p0.1 - zz1))) = true) →
    ((s_gravity_within (q0_gravity_CheckNet p0 y1).1 zz0 (wi (p0.1 - zz1))) = (s_gravity_within (q0_gravity_CheckNet p0 y1).1 zz0 (wi (p0.1 - zz1))))) ∧
    ((((s_gravity_within (q0_gravity_CheckNet p0 y1).1 zz0 (wi (p0.1 - zz1))) = true) →
    ((s_gravity_within (q0_gravity_CheckNet p0 y1).1 zz0 (wi (p0.1 - zz1))) = (s_gravity_within (q0_gravity_CheckNet p0 y1).1 zz0 (wi (p0.1 - zz1))))) ∧
    (((s_gravity_within (q0_gravity_CheckNet p0 y1).1 zz0 (wi (p0.1 - zz1))) = (s_gravity_within (q0_gravity_CheckNet p0 y1).1 zz0 (wi (p0.1 - zz1)))) ∧
    ((lenOk ((s_gravity_unless (cond (s_gravity_within (q0_gravity_CheckNet p0 y1).1 zz0 (wi (p0.1 - zz1))) (s_gravity_within (q0_gravity_CheckNet p0 y1).2.1 zz0 (wi (p0.1 - zz1))) false) (6 : Int)) :: (q1_gravity_CheckNet p0 y1))) ∧
    (((((v_first ((s_gravity_unless (cond (s_gravity_within (q0_gravity_CheckNet p0 y1).1 zz0 (wi (p0.1 - zz1))) (s_gravity_within (q0_gravity_CheckNet p0 y1).2.1 zz0 (wi (p0.1 - zz1))) false) (6 : Int)) :: (q1_gravity_CheckNet p0 y1))) != zz0) = true) →
    (K (y1, (v_first ((s_gravity_unless (cond (s_gravity_within (q0_gravity_CheckNet p0 y1).1 zz0 (wi (p0.1 - zz1))) (s_gravity_within (q0_gravity_CheckNet p0 y1).2.1 zz0 (wi (p0.1 - zz1))) false) (6 : Int)) :: (q1_gravity_CheckNet p0 y1)))))) ∧
    ((((v_first ((s_gravity_unless (cond (s_gravity_within (q0_gravity_CheckNet p0 y1).1 zz0 (wi (p0.1 - zz1))) (s_gravity_within (q0_gravity_CheckNet p0 y1).2.1 zz0 (wi (p0.1 - zz1))) false) (6 : Int)) :: (q1_gravity_CheckNet p0 y1))) != zz0) = false) →
    (k2 (wi (y1 + zz1))))))))))))))) ∧
   (((decide (y1 < (List.length p0.2 : Int))) = false) →
   (K (zz0, zz0))))) n0 zz0)))))
set_option maxHeartbeats 4000000 in
theorem w_gravity_CheckNet_eq (p0 : N5) (K : (Int × Int) → Prop) : tfn F_gravity_CheckNet A_gravity_CheckNet C_gravity_CheckNet P_gravity_CheckNet R_gravity_CheckNet p0 K = w_gravity_CheckNet p0 K := by kernel_rfl
def st_gravity_CheckNet_0 (p0 : N5) (y1 : Int) : Int ⊕ (Int × Int) :=
 (cond (decide (y1 < (List.length p0.2 : Int))) (cond ((v_first ((s_gravity_unless (cond (s_gravity_within (List.getD p0.2 (Int.toNat y1) (0, 0, 0, 0)).1 (0 : Int) (IntKind.i64.wrap (p0.1 - (1 : Int)))) (s_gravity_within (List.getD p0.2 (Int.toNat y1) (0, 0, 0, 0)).2.1 (0 : Int) (IntKind.i64.wrap (p0.1 - (1 : Int)))) false) (6 : Int)) :: ((s_gravity_unless ((List.getD p0.2 (Int.toNat y1) (0, 0, 0, 0)).1 != (List.getD p0.2 (Int.toNat y1) (0, 0, 0, 0)).2.1) (13 : Int)) :: ((s_gravity_rangeErr (List.getD p0.2 (Int.toNat y1) (0, 0, 0, 0)).2.2 (1000000 : Int)) :: ([] : List Int))))) != (0 : Int)) (Sum.inr (y1, (v_first ((s_gravity_unless (cond (s_gravity_within (List.getD p0.2 (Int.toNat y1) (0, 0, 0, 0)).1 (0 : Int) (IntKind.i64.wrap (p0.1 - (1 : Int)))) (s_gravity_within (List.getD p0.2 (Int.toNat y1) (0, 0, 0, 0)).2.1 (0 : Int) (IntKind.i64.wrap (p0.1 - (1 : Int)))) false) (6 : Int)) :: ((s_gravity_unless ((List.getD p0.2 (Int.toNat y1) (0, 0, 0, 0)).1 != (List.getD p0.2 (Int.toNat y1) (0, 0, 0, 0)).2.1) (13 : Int)) :: ((s_gravity_rangeErr (List.getD p0.2 (Int.toNat y1) (0, 0, 0, 0)).2.2 (1000000 : Int)) :: ([] : List Int)))))))
  (Sum.inl (IntKind.i64.wrap (y1 + (1 : Int)))))
  (Sum.inr ((0 : Int), (0 : Int))))
abbrev sp_gravity_CheckNet_0 (p0 : N5) (y1 : Int) : List Prop := [(((decide (y1 < (List.length p0.2 : Int))) = true) → ((0 : Int) ≤ y1)),
  (((decide (y1 < (List.length p0.2 : Int))) = true) → (y1 < (List.length p0.2 : Int)))]
def s_gravity_CheckNet (p0 : N5) : (Int × Int) :=
 (cond ((v_first ((s_gravity_unless (s_gravity_within p0.1 (1 : Int) (8 : Int)) (2 : Int)) :: ((s_gravity_unless (decide ((List.length p0.2 : Int) ≤ (12 : Int))) (8 : Int)) :: ([] : List Int)))) != (0 : Int)) ((0 : Int), (v_first ((s_gravity_unless (s_gravity_within p0.1 (1 : Int) (8 : Int)) (2 : Int)) :: ((s_gravity_unless (decide ((List.length p0.2 : Int) ≤ (12 : Int))) (8 : Int)) :: ([] : List Int)))))
  (lpv ((0 : Int), (0 : Int)) (st_gravity_CheckNet_0 p0) (0 : Int)))
abbrev pre_gravity_CheckNet (p0 : N5) : List Prop := [((((v_first ((s_gravity_unless (s_gravity_within p0.1 (1 : Int) (8 : Int)) (2 : Int)) :: ((s_gravity_unless (decide ((List.length p0.2 : Int) ≤ (12 : Int))) (8 : Int)) :: ([] : List Int)))) != (0 : Int)) = false) → (OkL (st_gravity_CheckNet_0 p0) (sp_gravity_CheckNet_0 p0) (0 : Int)))]
set_option maxHeartbeats 4000000 in
theorem d_gravity_CheckNet (p0 : N5) (K : (Int × Int) → Prop) (hp : ∀ p ∈ pre_gravity_CheckNet p0, p) (h : K (s_gravity_CheckNet p0)) : w_gravity_CheckNet p0 K := by
 unfold w_gravity_CheckNet
 unfold s_gravity_CheckNet at h
 obtain ⟨hp0, _⟩ := conj_of hp
 exact ⟨(lenOk_of 2 rfl (by decide)), (br' h (fun e0 h => h)
  (fun e0 h => (loop_gen (hp0 e0) h (fun y1 k1 hp h => by
 unfold st_gravity_CheckNet_0 at h; obtain ⟨hp0, hp1, _⟩ := conj_of hp
 exact (br' h (fun e2 h => ⟨(hp0 e2), (hp1 e2), rf, rf, rf, rf, rf, rfl, (lenOk_of 3 rfl (by decide)), (br' h (fun e3 h => h)
  (fun e3 h => h))⟩)
  (fun e2 h => h))))))⟩
/-- The error of a tie, of a net without its ties, of a net. -/
def v_tierr (n : Int) (t : Int × Int × Int × Int) : Int := v_first (s_gravity_unless (cond (s_gravity_within t.1 0 (IntKind.i64.wrap (n - 1))) (s_gravity_within t.2.1 0 (IntKind.i64.wrap (n - 1))) false) 6 :: s_gravity_unless (t.1 != t.2.1) 13 :: s_gravity_rangeErr t.2.2 1000000 :: [])
def v_neterr (p0 : Int × List (Int × Int × Int × Int)) : Int := v_first (s_gravity_unless (s_gravity_within p0.1 1 8) 2 :: s_gravity_unless (decide ((p0.2.length : Int) ≤ 12)) 8 :: [])
theorem l_gravity_CheckNet_0 (p0 : Int × List (Int × Int × Int × Int)) (hl : lenOk p0.2) : OkL (st_gravity_CheckNet_0 p0) (sp_gravity_CheckNet_0 p0) 0 ∧ lpv ((0 : Int), (0 : Int)) (st_gravity_CheckNet_0 p0) 0 = v_scan (fun i t => cond (v_tierr p0.1 t != 0) (some (i, v_tierr p0.1 t)) none) ((0 : Int), (0 : Int)) 0 p0.2 := by
 refine scan_is p0.2 (0, 0, 0, 0) (fun i t => cond (v_tierr p0.1 t != 0) (some (i, v_tierr p0.1 t)) none) ((0 : Int), (0 : Int)) hl ?_ ?_
 ·refine ⟨by simp only [sp_gravity_CheckNet_0, List.forall_mem_cons, decide_eq_true_eq]; simp, by simp [st_gravity_CheckNet_0]⟩
 ·intro j hj
  have hj' : (j : Int) < p0.2.length := by omega
  refine ⟨by simp only [sp_gravity_CheckNet_0, List.forall_mem_cons, decide_eq_true_eq, Int.toNat_natCast]; simp <;> omega, ?_⟩
  simp only [st_gravity_CheckNet_0, hj', decide_true, Int.toNat_natCast, cond_true, wrap_nat (show (j : Int) ≤ 9223372036854775806 by unfold lenOk at hl; omega)]
  generalize p0.2.getD j (0, 0, 0, 0) = x
  show cond (v_tierr p0.1 x != 0) _ _ = _
  cases (v_tierr p0.1 x != 0) <;> rfl
def v_net (p0 : Int × List (Int × Int × Int × Int)) : Int × Int := cond (v_neterr p0 != 0) (0, v_neterr p0) (v_scan (fun i t => cond (v_tierr p0.1 t != 0) (some (i, v_tierr p0.1 t)) none) ((0 : Int), (0 : Int)) 0 p0.2)
theorem tx_neterr {p0 : Int × List (Int × Int × Int × Int)} (h : v_neterr p0 = 0) : (1 ≤ p0.1 ∧ p0.1 ≤ 8) ∧ p0.2.length ≤ 12 := by
 obtain ⟨h1, h⟩ := v_first0 h
 obtain ⟨h2, _⟩ := v_first0 h
 have := of_decide_eq_true (tx_unless0' (by decide) h2)
 exact ⟨tx_within.1 (tx_unless0' (by decide) h1), by omega⟩
theorem tx_tierr {n : Int} {t : Int × Int × Int × Int} (hn : 1 ≤ n ∧ n ≤ 8) (h : v_tierr n t = 0) : (0 ≤ t.1 ∧ t.1 < n) ∧ (0 ≤ t.2.1 ∧ t.2.1 < n) ∧ t.1 ≠ t.2.1 ∧ (-1000000 ≤ t.2.2.1 ∧ t.2.2.1 ≤ 1000000) ∧ (-1000000 ≤ t.2.2.2 ∧ t.2.2.2 ≤ 1000000) ∧ t.2.2.1 ≤ t.2.2.2 := by
 obtain ⟨h1, h⟩ := v_first0 h
 obtain ⟨h2, h⟩ := v_first0 h
 obtain ⟨h3, _⟩ := v_first0 h
 rw [wrap_id (by omega) (by omega)] at h1
 obtain ⟨a1, a2⟩ := tx_andU (tx_unless0' (by decide) h1)
 have a3 := tx_unless0' (by decide) h2
 have a4 := tx_range3 h3
 have a1 := tx_within.1 a1
 have a2 := tx_within.1 a2
 exact ⟨by omega, by omega, by simpa using a3, a4⟩
theorem tx_net {p0 : Int × List (Int × Int × Int × Int)} (h : (v_net p0).2 = 0) : v_nokI p0.1 p0.2 := by
 unfold v_net at h
 cases hl : (v_neterr p0 != 0)
 ·rw [hl] at h
  obtain ⟨h1, h2⟩ := tx_neterr (bne0' hl)
  refine ⟨⟨by omega, by omega, h2, fun t ht => ?_⟩, by omega⟩
  have := v_scan_end (P := fun (r : Int × Int) => r.2 = 0) p0.2 0 h (fun j x v _ hv => by
   cases hb : (v_tierr p0.1 x != 0) <;> rw [hb] at hv <;> simp only [cond_true, cond_false, Option.some.injEq, reduceCtorEq] at hv
   subst hv; simpa using hb)
  obtain ⟨k, hk, rfl⟩ := List.mem_iff_getElem.1 ht
  have := this k hk
  cases hb : (v_tierr p0.1 p0.2[k] != 0)
  ·have := tx_tierr h1 (bne0' hb)
   rw [Int.toNat_of_nonneg (by omega)]
   exact this
  ·rw [hb] at this; cases this
 ·rw [hl] at h; simp only [cond_true] at h; rw [h] at hl; cases hl
abbrev t_gravity_CheckNet (p0 : Int × List (Int × Int × Int × Int)) : Int × Int := v_net p0
abbrev qre_gravity_CheckNet (_ : Int × List (Int × Int × Int × Int)) : List Prop := []
theorem pp_gravity_CheckNet (p0 : Int × List (Int × Int × Int × Int)) (_ : ∀ p ∈ qre_gravity_CheckNet p0, p) : ∀ p ∈ pre_gravity_CheckNet p0, p := by
 simp only [pre_gravity_CheckNet, List.forall_mem_cons]
 exact ⟨fun h => (l_gravity_CheckNet_0 p0 (lenOk_le (tx_neterr (bne0' h)).2 (by decide))).1, by simp⟩
theorem tt_gravity_CheckNet (p0 : Int × List (Int × Int × Int × Int)) (_ : ∀ p ∈ qre_gravity_CheckNet p0, p) : s_gravity_CheckNet p0 = t_gravity_CheckNet p0 := by
 show cond (v_neterr p0 != 0) (0, v_neterr p0) (lpv (0, 0) (st_gravity_CheckNet_0 p0) 0) = v_net p0
 unfold v_net
 cases hl : (v_neterr p0 != 0)
 ·exact (l_gravity_CheckNet_0 p0 (lenOk_le (tx_neterr (bne0' hl)).2 (by decide))).2
 ·rfl

abbrev con_gravity_CheckNet : Con := ⟨P_gravity_CheckNet, R_gravity_CheckNet, fun x => qre_gravity_CheckNet x, fun x => t_gravity_CheckNet x⟩
theorem ok_gravity_CheckNet : ConOk Tryd.prog 41 con_gravity_CheckNet := ⟨k_gravity_CheckNet, fun x hx => ret_tf (ps := P_gravity_CheckNet) (rs := R_gravity_CheckNet) (x := x) (y := t_gravity_CheckNet x) e_gravity_CheckNet hC_gravity_CheckNet (tf_of (w_gravity_CheckNet_eq x (fun z => z = t_gravity_CheckNet x)) (d_gravity_CheckNet x (fun z => z = t_gravity_CheckNet x) (pp_gravity_CheckNet x hx) (tt_gravity_CheckNet x hx)))⟩
/- gravity_SpanOf_1 -/
def C_gravity_SpanOf_1 : Cons := [(94, [], con_gravity_within)]
theorem hC_gravity_SpanOf_1 : ConsOk Tryd.prog C_gravity_SpanOf_1 := ConsOk.cons ok_gravity_within <| ConsOk.nil
def w_gravity_SpanOf_1 (p0 : Int) (p1 : N5) (K : Bool → Prop) : Prop :=
  (K (s_gravity_within p0 (0 : Int) (IntKind.i64.wrap (p1.1 - (1 : Int)))))
set_option maxHeartbeats 4000000 in
theorem w_gravity_SpanOf_1_eq (p0 : Int) (p1 : N5) (K : Bool → Prop) : tfn F_gravity_SpanOf_1 A_gravity_SpanOf_1 C_gravity_SpanOf_1 P_gravity_SpanOf_1 R_gravity_SpanOf_1 (p0, p1) K = w_gravity_SpanOf_1 p0 p1 K := by kernel_rfl
def s_gravity_SpanOf_1 (p0 : Int) (p1 : N5) : Bool :=
 (s_gravity_within p0 (0 : Int) (IntKind.i64.wrap (p1.1 - (1 : Int))))
abbrev pre_gravity_SpanOf_1 (p0 : Int) (p1 : N5) : List Prop := []
set_option maxHeartbeats 4000000 in
theorem d_gravity_SpanOf_1 (p0 : Int) (p1 : N5) (K : Bool → Prop) (hp : ∀ p ∈ pre_gravity_SpanOf_1 p0 p1, p) (h : K (s_gravity_SpanOf_1 p0 p1)) : w_gravity_SpanOf_1 p0 p1 K := by
 unfold w_gravity_SpanOf_1
 unfold s_gravity_SpanOf_1 at h
 exact h
abbrev con_gravity_SpanOf_1 : Con := ⟨P_gravity_SpanOf_1, R_gravity_SpanOf_1, fun x => pre_gravity_SpanOf_1 x.1 x.2, fun x => s_gravity_SpanOf_1 x.1 x.2⟩
theorem ok_gravity_SpanOf_1 : ConOk Tryd.prog 122 con_gravity_SpanOf_1 := ⟨k_gravity_SpanOf_1, fun x hx => ret_tf (ps := P_gravity_SpanOf_1) (rs := R_gravity_SpanOf_1) (x := x) (y := s_gravity_SpanOf_1 x.1 x.2) e_gravity_SpanOf_1 hC_gravity_SpanOf_1 (tf_of (w_gravity_SpanOf_1_eq x.1 x.2 (fun z => z = s_gravity_SpanOf_1 x.1 x.2)) (d_gravity_SpanOf_1 x.1 x.2 (fun z => z = s_gravity_SpanOf_1 x.1 x.2) hx rfl))⟩
/- gravity_farthest -/
def C_gravity_farthest : Cons := [(133, nMark 2, con_gravity_lowered)]
theorem hC_gravity_farthest : ConsOk Tryd.prog C_gravity_farthest := ConsOk.consN ok_gravity_lowered <| ConsOk.nil
abbrev q0_gravity_farthest (p0 : N5) (p1 : Int) := (v_lowl p0.2 (List.replicate (Int.toNat p0.1) zz0) (List.set (List.replicate (Int.toNat p0.1) false) (Int.toNat p1) true))
def w_gravity_farthest (p0 : N5) (p1 : Int) (p2 : Int) (K : (Int × Bool) → Prop) : Prop :=
  ((zz0 ≤ p0.1) ∧
 ((((8 : Int) * p0.1) ≤ (281474976710656 : Int)) ∧
 ((p0.1 ≤ (9223372036854775807 : Int)) ∧
 ((zz0 ≤ p0.1) ∧
 (((zz1 * p0.1) ≤ (281474976710656 : Int)) ∧
 ((p0.1 ≤ (9223372036854775807 : Int)) ∧
 ((zz0 ≤ p1) ∧
 ((p1 < (((List.length (List.replicate (Int.toNat p0.1) false)) : Nat) : Int)) ∧
 ((0 < (List.length (List.replicate (Int.toNat p0.1) zz0))) ∧
 ((0 < (List.length (List.set (List.replicate (Int.toNat p0.1) false) (Int.toNat p1) true))) ∧
 ((v_lwok p0.2 (List.replicate (Int.toNat p0.1) zz0) (List.set (List.replicate (Int.toNat p0.1) false) (Int.toNat p1) true)) ∧
 ((zz0 ≤ p2) ∧
 ((p2 < (((List.length (q0_gravity_farthest p0 p1).2.1) : Nat) : Int)) ∧
 ((zz0 ≤ p2) ∧
 ((p2 < (((List.length (q0_gravity_farthest p0 p1).2.2) : Nat) : Int)) ∧
 (K ((List.getD (q0_gravity_farthest p0 p1).2.1 (Int.toNat p2) zz0), (List.getD (q0_gravity_farthest p0 p1).2.2 (Int.toNat p2) false))))))))))))))))))
set_option maxHeartbeats 4000000 in
theorem w_gravity_farthest_eq (p0 : N5) (p1 : Int) (p2 : Int) (K : (Int × Bool) → Prop) : tfn F_gravity_farthest A_gravity_farthest C_gravity_farthest P_gravity_farthest R_gravity_farthest (p0, p1, p2) K = w_gravity_farthest p0 p1 p2 K := by kernel_rfl
def s_gravity_farthest (p0 : N5) (p1 : Int) (p2 : Int) : (Int × Bool) :=
 ((List.getD (v_lowl p0.2 (List.replicate (Int.toNat p0.1) (0 : Int)) (List.set (List.replicate (Int.toNat p0.1) false) (Int.toNat p1) true)).2.1 (Int.toNat p2) (0 : Int)), (List.getD (v_lowl p0.2 (List.replicate (Int.toNat p0.1) (0 : Int)) (List.set (List.replicate (Int.toNat p0.1) false) (Int.toNat p1) true)).2.2 (Int.toNat p2) false))
abbrev pre_gravity_farthest (p0 : N5) (p1 : Int) (p2 : Int) : List Prop := [((0 : Int) ≤ p0.1),
  (((8 : Int) * p0.1) ≤ (281474976710656 : Int)),
  (p0.1 ≤ (9223372036854775807 : Int)),
  (((1 : Int) * p0.1) ≤ (281474976710656 : Int)),
  ((0 : Int) ≤ p1),
  (p1 < (((List.length (List.replicate (Int.toNat p0.1) false)) : Nat) : Int)),
  (0 < (List.length (List.replicate (Int.toNat p0.1) (0 : Int)))),
  (0 < (List.length (List.set (List.replicate (Int.toNat p0.1) false) (Int.toNat p1) true))),
  (v_lwok p0.2 (List.replicate (Int.toNat p0.1) (0 : Int)) (List.set (List.replicate (Int.toNat p0.1) false) (Int.toNat p1) true)),
  ((0 : Int) ≤ p2),
  (p2 < (((List.length (v_lowl p0.2 (List.replicate (Int.toNat p0.1) (0 : Int)) (List.set (List.replicate (Int.toNat p0.1) false) (Int.toNat p1) true)).2.1) : Nat) : Int)),
  (p2 < (((List.length (v_lowl p0.2 (List.replicate (Int.toNat p0.1) (0 : Int)) (List.set (List.replicate (Int.toNat p0.1) false) (Int.toNat p1) true)).2.2) : Nat) : Int))]
set_option maxHeartbeats 4000000 in
theorem d_gravity_farthest (p0 : N5) (p1 : Int) (p2 : Int) (K : (Int × Bool) → Prop) (hp : ∀ p ∈ pre_gravity_farthest p0 p1 p2, p) (h : K (s_gravity_farthest p0 p1 p2)) : w_gravity_farthest p0 p1 p2 K := by
 unfold w_gravity_farthest
 unfold s_gravity_farthest at h
 obtain ⟨hp0, hp1, hp2, hp3, hp4, hp5, hp6, hp7, hp8, hp9, hp10, hp11, _⟩ := conj_of hp
 exact ⟨(hp0), (hp1), (hp2), (hp0), (hp3), (hp2), (hp4), (hp5), (hp6), (hp7), (hp8), (hp9), (hp10), (hp9), (hp11), h⟩
/-- How far one station may lie above another one; false: there is no such limit. -/
def v_far (n : Int) (l : List (Int × Int × Int × Int)) (a b : Int) : Int × Bool := ((v_lowl l (List.replicate n.toNat 0) ((List.replicate n.toNat false).set a.toNat true)).2.1.getD b.toNat 0, (v_lowl l (List.replicate n.toNat 0) ((List.replicate n.toNat false).set a.toNat true)).2.2.getD b.toNat false)
abbrev t_gravity_farthest (p0 : Int × List (Int × Int × Int × Int)) (p1 p2 : Int) : Int × Bool := v_far p0.1 p0.2 p1 p2
abbrev qre_gravity_farthest (p0 : Int × List (Int × Int × Int × Int)) (p1 p2 : Int) : List Prop := [v_nokI p0.1 p0.2, 0 ≤ p1, p1 < p0.1, 0 ≤ p2, p2 < p0.1]
theorem pp_gravity_farthest (p0 : Int × List (Int × Int × Int × Int)) (p1 p2 : Int) (hq : ∀ p ∈ qre_gravity_farthest p0 p1 p2, p) : ∀ p ∈ pre_gravity_farthest p0 p1 p2, p := by
 obtain ⟨h, a1, a2, b1, b2, _⟩ := conj_of hq
 have h1 := h.1.n1
 have h8 := h.1.n8
 have h0 := h.2
 obtain ⟨l1, l2⟩ := v_lowr_len (v_bnd p0.2) ((List.replicate p0.1.toNat (0 : Int)).length + 1) (List.replicate p0.1.toNat 0, (List.replicate p0.1.toNat false).set p1.toNat true)
 simp only [List.length_replicate, List.length_set] at l1 l2
 simp only [pre_gravity_farthest, List.forall_mem_cons, List.length_replicate, List.length_set, v_lowl, l1, l2]
 exact ⟨by omega, by omega, by omega, by omega, by omega, by omega, by omega, by omega, v_lwok_of h (by simp), by omega, by omega, by omega, by simp⟩
theorem tt_gravity_farthest (p0 : Int × List (Int × Int × Int × Int)) (p1 p2 : Int) (_ : ∀ p ∈ qre_gravity_farthest p0 p1 p2, p) : s_gravity_farthest p0 p1 p2 = t_gravity_farthest p0 p1 p2 := rfl

abbrev con_gravity_farthest : Con := ⟨P_gravity_farthest, R_gravity_farthest, fun x => qre_gravity_farthest x.1 x.2.1 x.2.2, fun x => t_gravity_farthest x.1 x.2.1 x.2.2⟩
theorem ok_gravity_farthest : ConOk Tryd.prog 123 con_gravity_farthest := ⟨k_gravity_farthest, fun x hx => ret_tf (ps := P_gravity_farthest) (rs := R_gravity_farthest) (x := x) (y := t_gravity_farthest x.1 x.2.1 x.2.2) e_gravity_farthest hC_gravity_farthest (tf_of (w_gravity_farthest_eq x.1 x.2.1 x.2.2 (fun z => z = t_gravity_farthest x.1 x.2.1 x.2.2)) (d_gravity_farthest x.1 x.2.1 x.2.2 (fun z => z = t_gravity_farthest x.1 x.2.1 x.2.2) (pp_gravity_farthest x.1 x.2.1 x.2.2 hx) (tt_gravity_farthest x.1 x.2.1 x.2.2 hx)))⟩
/- gravity_SpanOf -/
def C_gravity_SpanOf : Cons := [(41, [], con_gravity_CheckNet), (122, [], con_gravity_SpanOf_1), (89, [], con_gravity_unless), (88, [], con_gravity_first), (106, [], con_gravity_greatest), (123, [], con_gravity_farthest)]
theorem hC_gravity_SpanOf : ConsOk Tryd.prog C_gravity_SpanOf := ConsOk.cons ok_gravity_CheckNet <| ConsOk.cons ok_gravity_SpanOf_1 <| ConsOk.cons ok_gravity_unless <| ConsOk.cons ok_gravity_first <| ConsOk.cons ok_gravity_greatest <| ConsOk.cons ok_gravity_farthest <| ConsOk.nil
abbrev q0_gravity_SpanOf (p0 : N5) (p1 : Int) (p2 : Int) := ((v_net p0).2 :: ((s_gravity_unless (cond (s_gravity_SpanOf_1 p1 p0) (s_gravity_SpanOf_1 p2 p0) false) (6 : Int)) :: ([] : List Int)))
def w_gravity_SpanOf (p0 : N5) (p1 : Int) (p2 : Int) (K : ((Int × Int) × Int) → Prop) : Prop :=
  ((((s_gravity_SpanOf_1 p1 p0) = true) →
 ((s_gravity_SpanOf_1 p1 p0) = (s_gravity_SpanOf_1 p1 p0))) ∧
 ((((s_gravity_SpanOf_1 p1 p0) = true) →
 ((s_gravity_SpanOf_1 p1 p0) = (s_gravity_SpanOf_1 p1 p0))) ∧
 (((s_gravity_SpanOf_1 p1 p0) = (s_gravity_SpanOf_1 p1 p0)) ∧
 ((lenOk (q0_gravity_SpanOf p0 p1 p2)) ∧
 (((((v_first (q0_gravity_SpanOf p0 p1 p2)) != zz0) = true) →
 (K ((zz0, zz0), (v_first (q0_gravity_SpanOf p0 p1 p2))))) ∧
 ((((v_first (q0_gravity_SpanOf p0 p1 p2)) != zz0) = false) →
 ((v_nokI p0.1 p0.2) ∧
  ((((!(v_grt p0.1 p0.2).2) = true) →
  (K ((zz0, zz0), (13 : Int)))) ∧
  (((!(v_grt p0.1 p0.2).2) = false) →
  ((v_nokI p0.1 p0.2) ∧
   ((zz0 ≤ p1) ∧
   ((p1 < p0.1) ∧
   ((zz0 ≤ p2) ∧
   ((p2 < p0.1) ∧
   ((v_nokI p0.1 p0.2) ∧
   ((zz0 ≤ p2) ∧
   ((p2 < p0.1) ∧
   ((zz0 ≤ p1) ∧
   ((p1 < p0.1) ∧
   ((((!(v_far p0.1 p0.2 p1 p2).2) = false) →
   ((!(v_far p0.1 p0.2 p1 p2).2) = (!(v_far p0.1 p0.2 p1 p2).2))) ∧
   (((!(v_far p0.1 p0.2 p1 p2).2) = (!(v_far p0.1 p0.2 p1 p2).2)) ∧
   ((((cond (!(v_far p0.1 p0.2 p1 p2).2) true (!(v_far p0.1 p0.2 p2 p1).2)) = true) →
   (K ((zz0, zz0), (21 : Int)))) ∧
   (((cond (!(v_far p0.1 p0.2 p1 p2).2) true (!(v_far p0.1 p0.2 p2 p1).2)) = false) →
   (K (((wi (zz0 - (v_far p0.1 p0.2 p2 p1).1)), (v_far p0.1 p0.2 p1 p2).1), zz0)))))))))))))))))))))))))
set_option maxHeartbeats 4000000 in
theorem w_gravity_SpanOf_eq (p0 : N5) (p1 : Int) (p2 : Int) (K : ((Int × Int) × Int) → Prop) : tfn F_gravity_SpanOf A_gravity_SpanOf C_gravity_SpanOf P_gravity_SpanOf R_gravity_SpanOf (p0, p1, p2) K = w_gravity_SpanOf p0 p1 p2 K := by kernel_rfl
def s_gravity_SpanOf (p0 : N5) (p1 : Int) (p2 : Int) : ((Int × Int) × Int) :=
 (cond ((v_first ((v_net p0).2 :: ((s_gravity_unless (cond (s_gravity_SpanOf_1 p1 p0) (s_gravity_SpanOf_1 p2 p0) false) (6 : Int)) :: ([] : List Int)))) != (0 : Int)) (((0 : Int), (0 : Int)), (v_first ((v_net p0).2 :: ((s_gravity_unless (cond (s_gravity_SpanOf_1 p1 p0) (s_gravity_SpanOf_1 p2 p0) false) (6 : Int)) :: ([] : List Int)))))
  (cond (!(v_grt p0.1 p0.2).2) (((0 : Int), (0 : Int)), (13 : Int))
  (cond (cond (!(v_far p0.1 p0.2 p1 p2).2) true (!(v_far p0.1 p0.2 p2 p1).2)) (((0 : Int), (0 : Int)), (21 : Int))
  (((IntKind.i64.wrap ((0 : Int) - (v_far p0.1 p0.2 p2 p1).1)), (v_far p0.1 p0.2 p1 p2).1), (0 : Int)))))
abbrev pre_gravity_SpanOf (p0 : N5) (p1 : Int) (p2 : Int) : List Prop := [((((v_first ((v_net p0).2 :: ((s_gravity_unless (cond (s_gravity_SpanOf_1 p1 p0) (s_gravity_SpanOf_1 p2 p0) false) (6 : Int)) :: ([] : List Int)))) != (0 : Int)) = false) → (v_nokI p0.1 p0.2)),
  ((((v_first ((v_net p0).2 :: ((s_gravity_unless (cond (s_gravity_SpanOf_1 p1 p0) (s_gravity_SpanOf_1 p2 p0) false) (6 : Int)) :: ([] : List Int)))) != (0 : Int)) = false) → (((!(v_grt p0.1 p0.2).2) = false) → (v_nokI p0.1 p0.2))),
  ((((v_first ((v_net p0).2 :: ((s_gravity_unless (cond (s_gravity_SpanOf_1 p1 p0) (s_gravity_SpanOf_1 p2 p0) false) (6 : Int)) :: ([] : List Int)))) != (0 : Int)) = false) → (((!(v_grt p0.1 p0.2).2) = false) → ((0 : Int) ≤ p1))),
  ((((v_first ((v_net p0).2 :: ((s_gravity_unless (cond (s_gravity_SpanOf_1 p1 p0) (s_gravity_SpanOf_1 p2 p0) false) (6 : Int)) :: ([] : List Int)))) != (0 : Int)) = false) → (((!(v_grt p0.1 p0.2).2) = false) → (p1 < p0.1))),
  ((((v_first ((v_net p0).2 :: ((s_gravity_unless (cond (s_gravity_SpanOf_1 p1 p0) (s_gravity_SpanOf_1 p2 p0) false) (6 : Int)) :: ([] : List Int)))) != (0 : Int)) = false) → (((!(v_grt p0.1 p0.2).2) = false) → ((0 : Int) ≤ p2))),
  ((((v_first ((v_net p0).2 :: ((s_gravity_unless (cond (s_gravity_SpanOf_1 p1 p0) (s_gravity_SpanOf_1 p2 p0) false) (6 : Int)) :: ([] : List Int)))) != (0 : Int)) = false) → (((!(v_grt p0.1 p0.2).2) = false) → (p2 < p0.1)))]
set_option maxHeartbeats 4000000 in
theorem d_gravity_SpanOf (p0 : N5) (p1 : Int) (p2 : Int) (K : ((Int × Int) × Int) → Prop) (hp : ∀ p ∈ pre_gravity_SpanOf p0 p1 p2, p) (h : K (s_gravity_SpanOf p0 p1 p2)) : w_gravity_SpanOf p0 p1 p2 K := by
 unfold w_gravity_SpanOf
 unfold s_gravity_SpanOf at h
 obtain ⟨hp0, hp1, hp2, hp3, hp4, hp5, _⟩ := conj_of hp
 exact ⟨rf, rf, rfl, (lenOk_of 2 rfl (by decide)), (br' h (fun e0 h => h)
  (fun e0 h => ⟨(hp0 e0), (br' h (fun e1 h => h)
  (fun e1 h => ⟨(hp1 e0 e1), (hp2 e0 e1), (hp3 e0 e1), (hp4 e0 e1), (hp5 e0 e1), (hp1 e0 e1), (hp4 e0 e1), (hp5 e0 e1), (hp2 e0 e1), (hp3 e0 e1), rf, rfl, (br' h (fun e2 h => h)
  (fun e2 h => h))⟩))⟩))⟩
/-- The error of two stations; the span. -/
def v_spanerr (p0 : Int × List (Int × Int × Int × Int)) (p1 p2 : Int) : Int := v_first ((v_net p0).2 :: s_gravity_unless (cond (s_gravity_SpanOf_1 p1 p0) (s_gravity_SpanOf_1 p2 p0) false) 6 :: [])
def v_span (p0 : Int × List (Int × Int × Int × Int)) (p1 p2 : Int) : (Int × Int) × Int := cond (v_spanerr p0 p1 p2 != 0) ((0, 0), v_spanerr p0 p1 p2) (cond (!(v_grt p0.1 p0.2).2) ((0, 0), 13) (cond (cond (!(v_far p0.1 p0.2 p1 p2).2) true (!(v_far p0.1 p0.2 p2 p1).2)) ((0, 0), 21) ((IntKind.i64.wrap (0 - (v_far p0.1 p0.2 p2 p1).1), (v_far p0.1 p0.2 p1 p2).1), 0)))
theorem tx_spanerr {p0 : Int × List (Int × Int × Int × Int)} {p1 p2 : Int} (h : v_spanerr p0 p1 p2 = 0) : v_nokI p0.1 p0.2 ∧ (0 ≤ p1 ∧ p1 < p0.1) ∧ (0 ≤ p2 ∧ p2 < p0.1) := by
 obtain ⟨h1, h⟩ := v_first0 h
 obtain ⟨h2, _⟩ := v_first0 h
 have hn := tx_net h1
 have h8 := hn.1.n8
 have h0 := hn.2
 obtain ⟨a1, a2⟩ := tx_andU (tx_unless0' (by decide) h2)
 unfold s_gravity_SpanOf_1 at a1 a2
 rw [wrap_id (by omega) (by omega)] at a1 a2
 have a1 := tx_within.1 a1
 have a2 := tx_within.1 a2
 exact ⟨hn, by omega, by omega⟩
abbrev t_gravity_SpanOf (p0 : Int × List (Int × Int × Int × Int)) (p1 p2 : Int) : (Int × Int) × Int := v_span p0 p1 p2
abbrev qre_gravity_SpanOf (_ : Int × List (Int × Int × Int × Int)) (_ _ : Int) : List Prop := []
theorem pp_gravity_SpanOf (p0 : Int × List (Int × Int × Int × Int)) (p1 p2 : Int) (_ : ∀ p ∈ qre_gravity_SpanOf p0 p1 p2, p) : ∀ p ∈ pre_gravity_SpanOf p0 p1 p2, p := by
 have key : (v_spanerr p0 p1 p2 != 0) = false → v_nokI p0.1 p0.2 ∧ (0 ≤ p1 ∧ p1 < p0.1) ∧ (0 ≤ p2 ∧ p2 < p0.1) := fun h => tx_spanerr (bne0' h)
 simp only [pre_gravity_SpanOf, List.forall_mem_cons]
 exact ⟨fun h => (key h).1, fun h _ => (key h).1, fun h _ => (key h).2.1.1, fun h _ => (key h).2.1.2, fun h _ => (key h).2.2.1, fun h _ => (key h).2.2.2, by simp⟩
theorem tt_gravity_SpanOf (p0 : Int × List (Int × Int × Int × Int)) (p1 p2 : Int) (_ : ∀ p ∈ qre_gravity_SpanOf p0 p1 p2, p) : s_gravity_SpanOf p0 p1 p2 = t_gravity_SpanOf p0 p1 p2 := rfl

abbrev con_gravity_SpanOf : Con := ⟨P_gravity_SpanOf, R_gravity_SpanOf, fun x => qre_gravity_SpanOf x.1 x.2.1 x.2.2, fun x => t_gravity_SpanOf x.1 x.2.1 x.2.2⟩
theorem ok_gravity_SpanOf : ConOk Tryd.prog 79 con_gravity_SpanOf := ⟨k_gravity_SpanOf, fun x hx => ret_tf (ps := P_gravity_SpanOf) (rs := R_gravity_SpanOf) (x := x) (y := t_gravity_SpanOf x.1 x.2.1 x.2.2) e_gravity_SpanOf hC_gravity_SpanOf (tf_of (w_gravity_SpanOf_eq x.1 x.2.1 x.2.2 (fun z => z = t_gravity_SpanOf x.1 x.2.1 x.2.2)) (d_gravity_SpanOf x.1 x.2.1 x.2.2 (fun z => z = t_gravity_SpanOf x.1 x.2.1 x.2.2) (pp_gravity_SpanOf x.1 x.2.1 x.2.2 hx) (tt_gravity_SpanOf x.1 x.2.1 x.2.2 hx)))⟩
/- slices_Clipint_int -/
/-- slices.Clip[[]int,int] -/
def am136 : AFn := ⟨9, 0, [.tmp 2],
 (.seq (.reg [⟨some 2, none, (.op (.mv (.c (.p (.sl 0 [] true)))))⟩])
 (.seq (.reg [⟨some 3, none, (.op (.mv (.t 0)))⟩,
  ⟨some 4, none, (.op (.mv (.t 0)))⟩,
  ⟨some 5, none, (.op (.len false (.t 4)))⟩,
  ⟨some 6, none, (.op (.mv (.t 0)))⟩,
  ⟨some 7, none, (.op (.len false (.t 6)))⟩,
  ⟨some 8, none, (.op (.sl3 1 (.t 3) none (some (.t 5)) (.t 7)))⟩,
  ⟨some 2, none, (.op (.mv (.t 8)))⟩])
 .ret))⟩
theorem cm136 : cFn Tryd.prog 136 = some am136 := by kernel_rfl
def ints_v (l : List Int) : List (List Pv) := l.map fun n => [.int .i64 n]
theorem rw_Clip (l : List Int) : Ret Tryd.prog 136 [.p (.sl 1 (ints_v l) false)] (.p (.sl 1 (ints_v l) true)) := by
 refine ret_of cm136 ?_
 have hl : (0 : Int) ≤ 0 ∧ (0 : Int) ≤ ((ints_v l).length : Int) ∧ ((ints_v l).length : Int) ≤ ((ints_v l).length : Int) ∧ ((ints_v l).length : Int) ≤ ((ints_v l).length : Int) ∧ (1 = 1 ∨ (ints_v l).length = 0) := ⟨by omega, by omega, by omega, by omega, .inl rfl⟩
 have hv : ((ints_v l).drop (0 : Int).toNat).take (((ints_v l).length : Int).toNat - (0 : Int).toNat) = ints_v l := by
  rw [Int.toNat_natCast]; simp
 refine a_seq (a_reg (a_op rfl (a_end (a_next (a_seq (a_reg ?_))))))
 refine a_op rfl (a_op rfl (a_op rfl (a_op rfl (a_op rfl ?_))))
 refine a_op (v := .p (.sl 1 (ints_v l) true)) (hp' := []) ?_ (a_op rfl (a_end (a_next (a_ret ?_))))
 ·show (if (0 : Int) ≤ 0 ∧ (0 : Int) ≤ ((ints_v l).length : Int) ∧ ((ints_v l).length : Int) ≤ ((ints_v l).length : Int) ∧ ((ints_v l).length : Int) ≤ ((ints_v l).length : Int) ∧ (1 = 1 ∨ (ints_v l).length = 0) then some (V.p (.sl 1 (((ints_v l).drop (0 : Int).toNat).take (((ints_v l).length : Int).toNat - (0 : Int).toNat)) (decide (((ints_v l).length : Int) = ((ints_v l).length : Int)))), ([] : List Blk)) else none) = _
  rw [if_pos hl, hv, decide_eq_true rfl]
 ·exact ⟨_, rfl, rfl⟩
abbrev con_slices_Clipint_int : Con := ⟨[.one (.sl (.int .i64))], [.one (.sl (.int .i64))], fun _ => [], fun x => x⟩
theorem ok_slices_Clipint_int : ConOk Tryd.prog 136 con_slices_Clipint_int := by
 refine ⟨by kernel_rfl, fun x _ => ?_⟩
 refine ret_r (VLe.p ?_) (rw_Clip x)
 refine .sl _ _ _ _ _ _ (.inr rfl) rfl (fun h => by cases h) (fun i e e' h1 h2 => ?_) (fun i e e' j y y' h1 h2 h3 h4 => ?_)
 ·rw [show (List.map (Ty.enc (.int .i64)) x) = ints_v x from rfl, h1] at h2; cases h2; rfl
 ·rw [show (List.map (Ty.enc (.int .i64)) x) = ints_v x from rfl, h1] at h2; cases h2
  rw [h3] at h4; cases h4; exact .refl _
/- gravity_clash -/
def C_gravity_clash : Cons := [(106, [], con_gravity_greatest), (136, [], con_slices_Clipint_int)]
theorem hC_gravity_clash : ConsOk Tryd.prog C_gravity_clash := ConsOk.cons ok_gravity_greatest <| ConsOk.cons ok_slices_Clipint_int <| ConsOk.nil
def w_gravity_clash (p0 : N5) (p1 : (List Int)) (p2 : Int) (p3 : Int) (K : ((List Int) × Bool) → Prop) : Prop :=
  ((((p3 == (0 : Int)) = true) →
 (∃ n0, (loopP (fun (y1 : N5) k2 =>
   ((((decide (y1.1 < (List.length p1 : Int))) = true) →
   (((0 : Int) ≤ y1.1) ∧
    ((y1.1 < (List.length p1 : Int)) ∧
    (((0 : Int) ≤ (List.getD p1 (Int.toNat y1.1) 0)) ∧
    (((List.getD p1 (Int.toNat y1.1) 0) < (List.length p0.2 : Int)) ∧
    (((((List.length y1.2) + (List.length ((List.getD p0.2 (Int.toNat (List.getD p1 (Int.toNat y1.1) 0)) (0, 0, 0, 0)) :: ([] : List (Int × (Int × (Int × Int))))))) * 32) ≤ 140737488355328) ∧
    (k2 ((IntKind.i64.wrap (y1.1 + (1 : Int))), (y1.2 ++ ((List.getD p0.2 (Int.toNat (List.getD p1 (Int.toNat y1.1) 0)) (0, 0, 0, 0)) :: ([] : List (Int × (Int × (Int × Int)))))))))))))) ∧
   (((decide (y1.1 < (List.length p1 : Int))) = false) →
   ((v_nokI p0.1 y1.2) ∧
    (K (p1, (!(v_grt p0.1 y1.2).2))))))) n0 ((0 : Int), ([] : List (Int × (Int × (Int × Int)))))))) ∧
 (((p3 == (0 : Int)) = false) →
 (∃ n3, (loopP (fun (y4 : Int) k5 =>
   ((((decide (y4 < (List.length p0.2 : Int))) = true) →
   False) ∧
   (((decide (y4 < (List.length p0.2 : Int))) = false) →
   (K (([] : List Int), false))))) n3 p2))))
set_option maxHeartbeats 4000000 in
theorem w_gravity_clash_eq (p0 : N5) (p1 : (List Int)) (p2 : Int) (p3 : Int) (K : ((List Int) × Bool) → Prop) : tfn F_gravity_clash A_gravity_clash C_gravity_clash P_gravity_clash R_gravity_clash (p0, p1, p2, p3) K = w_gravity_clash p0 p1 p2 p3 K := by kernel_rfl
def st_gravity_clash_0 (p0 : N5) (p1 : (List Int)) (p2 : Int) (p3 : Int) (y1 : N5) : N5 ⊕ ((List Int) × Bool) :=
 (cond (decide (y1.1 < (List.length p1 : Int))) (Sum.inl ((IntKind.i64.wrap (y1.1 + (1 : Int))), (y1.2 ++ ((List.getD p0.2 (Int.toNat (List.getD p1 (Int.toNat y1.1) 0)) (0, 0, 0, 0)) :: ([] : List (Int × (Int × (Int × Int))))))))
  (Sum.inr (p1, (!(v_grt p0.1 y1.2).2))))
abbrev sp_gravity_clash_0 (p0 : N5) (p1 : (List Int)) (p2 : Int) (p3 : Int) (y1 : N5) : List Prop := [(((decide (y1.1 < (List.length p1 : Int))) = true) → ((0 : Int) ≤ y1.1)),
  (((decide (y1.1 < (List.length p1 : Int))) = true) → (y1.1 < (List.length p1 : Int))),
  (((decide (y1.1 < (List.length p1 : Int))) = true) → ((0 : Int) ≤ (List.getD p1 (Int.toNat y1.1) 0))),
  (((decide (y1.1 < (List.length p1 : Int))) = true) → ((List.getD p1 (Int.toNat y1.1) 0) < (List.length p0.2 : Int))),
  (((decide (y1.1 < (List.length p1 : Int))) = true) → ((((List.length y1.2) + (List.length ((List.getD p0.2 (Int.toNat (List.getD p1 (Int.toNat y1.1) 0)) (0, 0, 0, 0)) :: ([] : List (Int × (Int × (Int × Int))))))) * 32) ≤ 140737488355328)),
  (((decide (y1.1 < (List.length p1 : Int))) = false) → (v_nokI p0.1 y1.2))]
def st_gravity_clash_1 (p0 : N5) (p1 : (List Int)) (p2 : Int) (p3 : Int) (y3 : Int) : Int ⊕ ((List Int) × Bool) :=
 (cond (decide (y3 < (List.length p0.2 : Int))) (Sum.inr ([], false))
  (Sum.inr (([] : List Int), false)))
abbrev sp_gravity_clash_1 (p0 : N5) (p1 : (List Int)) (p2 : Int) (p3 : Int) (y3 : Int) : List Prop := [(((decide (y3 < (List.length p0.2 : Int))) = true) → False)]
def s_gravity_clash (p0 : N5) (p1 : (List Int)) (p2 : Int) (p3 : Int) : ((List Int) × Bool) :=
 (cond (p3 == (0 : Int)) (lpv ([], false) (st_gravity_clash_0 p0 p1 p2 p3) ((0 : Int), ([] : List (Int × (Int × (Int × Int))))))
  (lpv ([], false) (st_gravity_clash_1 p0 p1 p2 p3) p2))
abbrev pre_gravity_clash (p0 : N5) (p1 : (List Int)) (p2 : Int) (p3 : Int) : List Prop := [(((p3 == (0 : Int)) = true) → (OkL (st_gravity_clash_0 p0 p1 p2 p3) (sp_gravity_clash_0 p0 p1 p2 p3) ((0 : Int), ([] : List (Int × (Int × (Int × Int))))))),
  (((p3 == (0 : Int)) = false) → (OkL (st_gravity_clash_1 p0 p1 p2 p3) (sp_gravity_clash_1 p0 p1 p2 p3) p2))]
set_option maxHeartbeats 4000000 in
theorem d_gravity_clash (p0 : N5) (p1 : (List Int)) (p2 : Int) (p3 : Int) (K : ((List Int) × Bool) → Prop) (hp : ∀ p ∈ pre_gravity_clash p0 p1 p2 p3, p) (h : K (s_gravity_clash p0 p1 p2 p3)) : w_gravity_clash p0 p1 p2 p3 K := by
 unfold w_gravity_clash
 unfold s_gravity_clash at h
 obtain ⟨hp0, hp1, _⟩ := conj_of hp
 exact (br' h (fun e0 h => (loop_gen (hp0 e0) h (fun y1 k1 hp h => by
 unfold st_gravity_clash_0 at h; obtain ⟨hp0, hp1, hp2, hp3, hp4, hp5, _⟩ := conj_of hp
 exact (br' h (fun e2 h => ⟨(hp0 e2), (hp1 e2), (hp2 e2), (hp3 e2), (hp4 e2), h⟩)
  (fun e2 h => ⟨(hp5 e2), h⟩)))))
  (fun e0 h => (loop_gen (hp1 e0) h (fun y3 k3 hp h => by
 unfold st_gravity_clash_1 at h; obtain ⟨hp0, _⟩ := conj_of hp
 exact (br' h (fun e4 h => (hp0 e4).elim)
  (fun e4 h => h))))))
/-- The first that answers. -/
def v_fst (f : Nat → List Int × Bool) : List Nat → List Int × Bool
 | [] => ([], false)
 | i :: r => cond (f i).2 ((f i).1, true) (v_fst f r)
def am_clash : AFn := ⟨69, 8, [.tmp 8, .tmp 9],
 (.seq (.reg [⟨some 4, none, (.op (.box 0 (.t 0)))⟩,
  ⟨some 8, none, (.op (.mv (.c (.p (.sl 0 [] true)))))⟩,
  ⟨some 9, none, (.op (.mv (.c (.p (.bool false)))))⟩])
 (.seq (.seq (.reg [⟨some 18, none, (.op (.mv (.t 3)))⟩,
  ⟨some 19, none, (.op (.bin .eql (.t 18) (.c (.p (.int .i64 0)))))⟩])
 (.cond (.t 19) (.seq (.reg [⟨some 10, none, (.op (.mv (.c (.p (.sl 0 [] true)))))⟩])
 (.seq (.seq (.reg [⟨some 20, none, (.op (.mv (.t 1)))⟩,
  ⟨some 21, none, (.op (.len false (.t 20)))⟩,
  ⟨some 22, none, (.op (.mv (.c (.p (.int .i64 0)))))⟩])
 (.block 0 (.loop (.seq (.reg [⟨some 23, none, (.op (.bin .lss (.t 22) (.t 21)))⟩])
 (.seq (.cond (.t 23) .skip (.exit 0))
 (.seq (.block 1 (.seq (.reg [⟨some 24, none, (.op (.ia 1 (.t 20) (.t 22)))⟩,
  ⟨some 25, none, (.op (.ld1 (.t 24)))⟩,
  ⟨some 12, none, (.op (.mv (.t 25)))⟩])
 (.reg [⟨some 26, none, (.op (.mv (.t 10)))⟩,
  ⟨some 27, none, (.op (.fa 1 (.t 4)))⟩,
  ⟨some 28, none, (.op (.ld1 (.t 27)))⟩,
  ⟨some 29, none, (.op (.mv (.t 12)))⟩,
  ⟨some 30, none, (.op (.ia 4 (.t 28) (.t 29)))⟩,
  ⟨some 31, none, (.op (.ldn 4 (.t 30)))⟩,
  ⟨some 32, none, (.op (.bsl false 1 4 1 [(.p (.int .i64 0)), (.p (.int .i64 0)), (.p (.int .i64 0)), (.p (.int .i64 0))] [(0, 4, (.t 31))]))⟩,
  ⟨some 33, none, (.op (.app 2 4 32 (.t 26) (.t 32)))⟩,
  ⟨some 10, none, (.op (.mv (.t 33)))⟩])))
 (.reg [⟨some 34, none, (.op (.bin .add (.t 22) (.c (.p (.int .i64 1)))))⟩,
  ⟨some 22, none, (.op (.mv (.t 34)))⟩])))))))
 (.seq (.reg [⟨some 36, none, (.op (.fa 0 (.t 4)))⟩,
  ⟨some 37, none, (.op (.ld1 (.t 36)))⟩,
  ⟨some 38, none, (.op (.mv (.t 10)))⟩,
  ⟨some 39, none, (.call 3 106 [(.t 37), (.t 38)])⟩,
  ⟨some 35, none, (.op (.mv (.t 39)))⟩,
  ⟨some 40, none, (.op (.ext 0 (.t 35)))⟩,
  ⟨some 41, none, (.op (.ext 1 (.t 35)))⟩,
  ⟨some 13, none, (.op (.mv (.t 40)))⟩,
  ⟨some 14, none, (.op (.mv (.t 41)))⟩])
 (.seq (.reg [⟨some 42, none, (.op (.mv (.t 1)))⟩,
  ⟨some 43, none, (.op (.mv (.t 14)))⟩,
  ⟨some 44, none, (.op (.unot (.t 43)))⟩,
  ⟨some 8, none, (.op (.mv (.t 42)))⟩,
  ⟨some 9, none, (.op (.mv (.t 44)))⟩])
 .ret)))) .skip))
 (.seq (.seq (.reg [⟨some 45, none, (.op (.mv (.t 2)))⟩,
  ⟨some 15, none, (.op (.mv (.t 45)))⟩])
 (.block 2 (.loop (.seq (.seq (.reg [⟨some 46, none, (.op (.mv (.t 15)))⟩,
  ⟨some 47, none, (.op (.fa 1 (.t 4)))⟩,
  ⟨some 48, none, (.op (.ld1 (.t 47)))⟩,
  ⟨some 49, none, (.op (.len false (.t 48)))⟩,
  ⟨some 50, none, (.op (.bin .lss (.t 46) (.t 49)))⟩])
 (.cond (.t 50) .skip (.exit 2)))
 (.seq (.block 3 (.seq (.regd [⟨some 54, none, (.op (.ldn 2 (.t 4)))⟩,
  ⟨some 55, none, (.op (.mv (.t 1)))⟩,
  ⟨some 56, none, (.call 4 136 [(.t 55)])⟩,
  ⟨some 57, none, (.op (.mv (.t 15)))⟩,
  ⟨some 58, none, (.op (.bsl false 5 1 1 [(.p (.int .i64 0))] [(0, 1, (.t 57))]))⟩,
  ⟨some 59, none, (.op (.app 6 1 8 (.t 56) (.t 58)))⟩,
  ⟨some 60, none, (.op (.mv (.t 15)))⟩,
  ⟨some 61, none, (.op (.bin .add (.t 60) (.c (.p (.int .i64 1)))))⟩,
  ⟨some 62, none, (.op (.mv (.t 3)))⟩,
  ⟨some 63, none, (.op (.bin .sub (.t 62) (.c (.p (.int .i64 1)))))⟩,
  ⟨some 64, none, (.call 7 124 [(.t 54), (.t 59), (.t 61), (.t 63)])⟩,
  ⟨some 53, none, (.op (.mv (.t 64)))⟩,
  ⟨some 65, none, (.op (.ext 0 (.t 53)))⟩,
  ⟨some 66, none, (.op (.ext 1 (.t 53)))⟩,
  ⟨some 16, none, (.op (.mv (.t 65)))⟩,
  ⟨some 17, none, (.op (.mv (.t 66)))⟩] [(0, 2), (0, 5)])
 (.seq (.reg [⟨some 67, none, (.op (.mv (.t 17)))⟩])
 (.cond (.t 67) (.seq (.reg [⟨some 68, none, (.op (.mv (.t 16)))⟩,
  ⟨some 8, none, (.op (.mv (.t 68)))⟩,
  ⟨some 9, none, (.op (.mv (.c (.p (.bool true)))))⟩])
 .ret) .skip))))
 (.reg [⟨some 51, none, (.op (.mv (.t 15)))⟩,
  ⟨some 52, none, (.op (.bin .add (.t 51) (.c (.p (.int .i64 1)))))⟩,
  ⟨some 15, none, (.op (.mv (.t 52)))⟩]))))))
 (.seq (.reg [⟨some 8, none, (.op (.mv (.c (.p (.sl 0 [] true)))))⟩,
  ⟨some 9, none, (.op (.mv (.c (.p (.bool false)))))⟩])
 .ret))))⟩
theorem cm_clash : cFn Tryd.prog 124 = some am_clash := by kernel_rfl
def lp_clash : ACode := (.seq (.seq (.reg [⟨some 46, none, (.op (.mv (.t 15)))⟩,
  ⟨some 47, none, (.op (.fa 1 (.t 4)))⟩,
  ⟨some 48, none, (.op (.ld1 (.t 47)))⟩,
  ⟨some 49, none, (.op (.len false (.t 48)))⟩,
  ⟨some 50, none, (.op (.bin .lss (.t 46) (.t 49)))⟩])
 (.cond (.t 50) .skip (.exit 2)))
 (.seq (.block 3 (.seq (.regd [⟨some 54, none, (.op (.ldn 2 (.t 4)))⟩,
  ⟨some 55, none, (.op (.mv (.t 1)))⟩,
  ⟨some 56, none, (.call 4 136 [(.t 55)])⟩,
  ⟨some 57, none, (.op (.mv (.t 15)))⟩,
  ⟨some 58, none, (.op (.bsl false 5 1 1 [(.p (.int .i64 0))] [(0, 1, (.t 57))]))⟩,
  ⟨some 59, none, (.op (.app 6 1 8 (.t 56) (.t 58)))⟩,
  ⟨some 60, none, (.op (.mv (.t 15)))⟩,
  ⟨some 61, none, (.op (.bin .add (.t 60) (.c (.p (.int .i64 1)))))⟩,
  ⟨some 62, none, (.op (.mv (.t 3)))⟩,
  ⟨some 63, none, (.op (.bin .sub (.t 62) (.c (.p (.int .i64 1)))))⟩,
  ⟨some 64, none, (.call 7 124 [(.t 54), (.t 59), (.t 61), (.t 63)])⟩,
  ⟨some 53, none, (.op (.mv (.t 64)))⟩,
  ⟨some 65, none, (.op (.ext 0 (.t 53)))⟩,
  ⟨some 66, none, (.op (.ext 1 (.t 53)))⟩,
  ⟨some 16, none, (.op (.mv (.t 65)))⟩,
  ⟨some 17, none, (.op (.mv (.t 66)))⟩] [(0, 2), (0, 5)])
 (.seq (.reg [⟨some 67, none, (.op (.mv (.t 17)))⟩])
 (.cond (.t 67) (.seq (.reg [⟨some 68, none, (.op (.mv (.t 16)))⟩,
  ⟨some 8, none, (.op (.mv (.t 68)))⟩,
  ⟨some 9, none, (.op (.mv (.c (.p (.bool true)))))⟩])
 .ret) .skip))))
 (.reg [⟨some 51, none, (.op (.mv (.t 15)))⟩,
  ⟨some 52, none, (.op (.bin .add (.t 51) (.c (.p (.int .i64 1)))))⟩,
  ⟨some 15, none, (.op (.mv (.t 52)))⟩])))
theorem ad_call {P : Program} {m : Nat} {st : St} {r : List AIns} {K : St → Prop} {d : Option Nat} {s : Nat} {f : FuncId} {args : List Opd} {as' : List V} {v : V} {pairs : List (Nat × Nat)} {F : List (List Nat × List Nat)} (h : optAll (pur st.hp) (args.map st.get) = some as') (hm : (((args.map st.get).flatMap slots).all fun t => decide (m ≤ t)) = true) (hr : Ret P f as' v) (k : ARunD P m pairs r (St.put ⟨st.ts, frzAll st.hp ((args.map st.get).flatMap slots)⟩ d v) (F ++ [((args.map st.get).flatMap slots ++ [s], wrC st.hp (args.map st.get) s)]) K) : ARunD P m pairs (⟨d, none, .call s f args⟩ :: r) st F K := ⟨v, _, .pure as' v h hm hr, k⟩
theorem ad_opw {P : Program} {m : Nat} {st : St} {r : List AIns} {K : St → Prop} {d : Option Nat} {o : AOp} {kk : IntKind} {n n' : Int} {hp' : List Blk} {pairs : List (Nat × Nat)} {F : List (List Nat × List Nat)} (hn : n = n') (h : astep st.hp st.get o = some (.p (.int kk n), hp')) (k : ARunD P m pairs r (St.put ⟨st.ts, hp'⟩ d (.p (.int kk n'))) (F ++ [(touch st.get o, wrs st.get o)]) K) : ARunD P m pairs (⟨d, none, .op o⟩ :: r) st F K := ⟨_, hp', h, hn ▸ k⟩
theorem ad_at {P : Program} {m : Nat} {st st' : St} {r : List AIns} {K : St → Prop} {pairs : List (Nat × Nat)} {F F' : List (List Nat × List Nat)} (h : st = st') (hF : F = F') (k : ARunD P m pairs r st' F' K) : ARunD P m pairs r st F K := by subst h; subst hF; exact k
theorem c_awp_at {P : Program} {m : Nat} {x : ACode} {Q : AEx → St → Prop} {st st' : St} (h : st = st') (k : AWp P m x Q st') : AWp P m x Q st := h ▸ k
theorem c_unr_at {P : Program} {m : Nat} {x : ACode} {Q : AEx → St → Prop} {n : Nat} {st st' : St} (h : st = st') (k : Unr P m x Q n st') : Unr P m x Q n st := h ▸ k
theorem c_q_at {Q : St → Prop} {st st' : St} (h : st = st') (k : Q st') : Q st := h ▸ k
theorem ints_flat : ∀ s : List Int, (ints_v s).flatten = s.map fun z => Pv.int .i64 z
 | [] => rfl
 | z :: s => by rw [ints_v, List.map_cons, List.flatten_cons]; exact congrArg (fun r => Pv.int .i64 z :: r) (ints_flat s)
theorem ints_allP : ∀ s : List Int, allP ((s.map fun z => Pv.int .i64 z).map V.p) = some (s.map fun z => Pv.int .i64 z)
 | [] => rfl
 | z :: s => by simp only [List.map_cons, allP, ints_allP s]; rfl
theorem ints_chunk : ∀ s : List Int, chunk 1 s.length (s.map fun z => Pv.int .i64 z) = ints_v s
 | [] => rfl
 | z :: s => by
  show [Pv.int .i64 z] :: chunk 1 s.length (s.map fun z => Pv.int .i64 z) = _
  rw [ints_chunk s]; rfl
theorem ints_slice {hp : List Blk} {t ver : Nat} {s : List Int} {bs : BSt} (h : hp[t]? = some ⟨ver, bs, (ints_v s).flatten.map V.p⟩) (hb : bs.ok = true) : sliceP hp 1 (.ref t ver 0 s.length 1) = some (ints_v s) := by
 have hl : ((ints_v s).flatten.map V.p).length = s.length := by rw [ints_flat]; simp
 show (match hp[t]? with | some b => if b.ver = ver ∧ b.st.ok = true ∧ 1 = 1 ∧ 0 + s.length * 1 ≤ b.cs.length then (allP ((b.cs.drop 0).take (s.length * 1))).map (chunk 1 s.length) else none | none => none) = _
 rw [h]
 show (if ver = ver ∧ bs.ok = true ∧ 1 = 1 ∧ 0 + s.length * 1 ≤ ((ints_v s).flatten.map V.p).length then (allP ((((ints_v s).flatten.map V.p).drop 0).take (s.length * 1))).map (chunk 1 s.length) else none) = _
 rw [if_pos ⟨rfl, hb, rfl, by rw [hl]; omega⟩, List.drop_zero, Nat.mul_one, List.take_of_length_le (by rw [hl]; exact Nat.le_refl _), ints_flat, ints_allP]
 show some (chunk 1 s.length _) = _
 rw [ints_chunk]
theorem optAll4 {f : V → Option V} {a b c d a' b' c' d' : V} (ha : f a = some a') (hb : f b = some b') (hc : f c = some c') (hd : f d = some d') : optAll f [a, b, c, d] = some [a', b', c', d'] := by simp [optAll, ha, hb, hc, hd]
theorem a_app1 {hp : List Blk} {g : Opd → V} {s k k0 bytes : Nat} {x y : Opd} {new : List (List Pv)} {b : Blk} (hs : sliceP hp k (g y) = some new) (hx : g x = .p (.sl k0 [] true)) (hb : hp[s]? = some b) (hz : new.length * bytes ≤ 140737488355328) : astep hp g (.app s k bytes x y) = some (.ref s (b.ver + 1) 0 new.length k, hp.set s ⟨b.ver + 1, .live, new.flatten.map .p⟩) := by
 simp only [astep, hs, hx, hb, if_pos hz]
theorem a_app2 {hp : List Blk} {g : Opd → V} {s k bytes : Nat} {x y : Opd} {new : List (List Pv)} {b : Blk} {e : List Pv} {es : List (List Pv)} (hs : sliceP hp k (g y) = some new) (hx : g x = .p (.sl k (e :: es) true)) (hb : hp[s]? = some b) (hz : k = k ∧ 0 < new.length ∧ (es.length + 1 + new.length) * bytes ≤ 140737488355328) : astep hp g (.app s k bytes x y) = some (.ref s (b.ver + 1) 0 (es.length + 1 + new.length) k, hp.set s ⟨b.ver + 1, .live, ((e :: es) ++ new).flatten.map .p⟩) := by
 simp only [astep, hs, hx, hb]
 exact if_pos ⟨trivial, hz.2⟩
set_option maxHeartbeats 4000000 in
theorem rw_clash (n : Int) (l : List (Int × Int × Int × Int)) (hl : l.length ≤ 1000) (k : Nat) (hk : k ≤ 1000) (set : List Int) (hset : set.length ≤ 1000) (a : Nat) (ha : a ≤ 2000) (R : Nat → List Int × Bool)
  (hr : ∀ i : Nat, a ≤ i → i < l.length → Ret Tryd.prog 124 [.agg [.p (.int .i64 n), .p (.sl 4 (bnd_es l) false)], .p (.sl 1 (ints_v (set ++ [(i : Int)])) false), .p (.int .i64 (((i + 1 : Nat) : Int))), .p (.int .i64 ((k : Int)))] (.tup [.p (.sl 1 (ints_v (R i).1) false), .p (.bool (R i).2)])) :
  Ret Tryd.prog 124 [.agg [.p (.int .i64 n), .p (.sl 4 (bnd_es l) false)], .p (.sl 1 (ints_v set) false), .p (.int .i64 ((a : Int))), .p (.int .i64 (((k + 1 : Nat) : Int)))] (.tup [.p (.sl 1 (ints_v (v_fst R (List.range' a (l.length - a))).1) false), .p (.bool (v_fst R (List.range' a (l.length - a))).2)]) := by
 have hel : (bnd_es l).length = l.length := by simp [bnd_es]
 have hVLe : ∀ b : Bool, VLe (.tup [.p (.sl 0 [] true), .p (.bool b)]) (.tup [.p (.sl 1 (ints_v []) false), .p (.bool b)]) := by
  intro b S w v hv
  cases hv with
  | tup _ arr hn h =>
   refine .tup _ _ hn fun i c hc => ?_
   match i, hc with
   | 0, hc =>
    simp only [List.getElem?_cons_zero, Option.some.injEq] at hc
    subst hc
    exact VLe.p (.sl _ _ _ _ _ _ (.inl rfl) rfl (fun h => (by cases h)) (fun i e e' h1 _ => by simp at h1) (fun i e e' j y y' h1 _ _ _ => by simp at h1)) _ _ _ (h 0 _ rfl)
   | 1, hc =>
    simp only [List.getElem?_cons_succ, List.getElem?_cons_zero, Option.some.injEq] at hc
    subst hc
    exact h 1 _ rfl
 obtain ⟨rr, hrr, hrv⟩ : ∃ rr : V, VLe rr (.tup [.p (.sl 1 (ints_v (v_fst R (List.range' a (l.length - a))).1) false), .p (.bool (v_fst R (List.range' a (l.length - a))).2)]) ∧ (rr = (.tup [.p (.sl 1 (ints_v (v_fst R (List.range' a (l.length - a))).1) false), .p (.bool (v_fst R (List.range' a (l.length - a))).2)]) ∨ ((v_fst R (List.range' a (l.length - a))) = ([], false) ∧ rr = .tup [.p (.sl 0 [] true), .p (.bool false)])) ∧ ((v_fst R (List.range' a (l.length - a))).2 = false → v_fst R (List.range' a (l.length - a)) = ([], false) ∧ rr = .tup [.p (.sl 0 [] true), .p (.bool false)]) ∧ ((v_fst R (List.range' a (l.length - a))).2 = true → rr = (.tup [.p (.sl 1 (ints_v (v_fst R (List.range' a (l.length - a))).1) false), .p (.bool true)])) := by
  have hfst : ∀ q : List Nat, (v_fst R q).2 = false → v_fst R q = ([], false) := by
   intro q
   induction q with
   | nil => intro _; rfl
   | cons i q ih =>
    unfold v_fst
    cases (R i).2
    ·exact ih
    ·intro h; cases h
  cases hb : (v_fst R (List.range' a (l.length - a))).2 with
  | false =>
   have he := hfst _ hb
   rw [he]
   exact ⟨_, hVLe false, .inr ⟨rfl, rfl⟩, fun _ => ⟨rfl, rfl⟩, fun h => (by cases h)⟩
  | true => exact ⟨_, .refl _, .inl rfl, fun h => (by cases h), fun _ => rfl⟩
 refine ret_r hrr (ret_of cm_clash ?_)
 generalize hQ : (Done fun s => ∃ v, resV s am_clash.res = some v ∧ purR s.hp v = some rr) = Q
 have loop : ∀ (f i : Nat) (b5 b6 : Blk) (v16 v17 v46 v47 v48 v49 v50 v51 v52 v53 v54 v55 v56 v57 v58 v59 v60 v61 v62 v63 v64 v65 v66 v67 v68 : V), l.length + 1 - i ≤ f → a ≤ i → i ≤ max a l.length → v_fst R (List.range' a (l.length - a)) = v_fst R (List.range' i (l.length - i)) → 0 < f →
   Unr Tryd.prog 0 lp_clash (AEx.blk 2 (AEx.seq (AWp Tryd.prog 0 (.seq (.reg [⟨some 8, none, (.op (.mv (.c (.p (.sl 0 [] true)))))⟩, ⟨some 9, none, (.op (.mv (.c (.p (.bool false)))))⟩]) .ret) Q) Q)) f ⟨[.agg [.p (.int .i64 n), .p (.sl 4 (bnd_es l) false)], .p (.sl 1 (ints_v set) false), .p (.int .i64 ((a : Int))), .p (.int .i64 (((k + 1 : Nat) : Int))), .ptr 0 1 0, .und, .und, .und, .p (.sl 0 [] true), .p (.bool false), .und, .und, .und, .und, .und, .p (.int .i64 ((i : Int))), v16, v17, .p (.int .i64 (((k + 1 : Nat) : Int))), .p (.bool false), .und, .und, .und, .und, .und, .und, .und, .und, .und, .und, .und, .und, .und, .und, .und, .und, .und, .und, .und, .und, .und, .und, .und, .und, .und, .p (.int .i64 ((a : Int))), v46, v47, v48, v49, v50, v51, v52, v53, v54, v55, v56, v57, v58, v59, v60, v61, v62, v63, v64, v65, v66, v67, v68], [⟨1, .live, [.p (.int .i64 n), .p (.sl 4 (bnd_es l) false)]⟩, ⟨0, .dead, []⟩, ⟨0, .dead, []⟩, ⟨0, .dead, []⟩, ⟨0, .dead, []⟩, b5, b6, ⟨0, .dead, []⟩]⟩ := by
  intro f
  induction f with
  | zero => intro i b5 b6; intros; omega
  | succ f ih =>
   intro i b5 b6 v16 v17 v46 v47 v48 v49 v50 v51 v52 v53 v54 v55 v56 v57 v58 v59 v60 v61 v62 v63 v64 v65 v66 v67 v68 hf hai him he _
   refine a_unr (a_seq (a_seq (a_reg (a_op rfl (a_op rfl (a_op rfl (a_opw (n' := (l.length : Int)) (by rw [hel]) rfl (a_op rfl (a_end (a_next ?_)))))))))) 
   by_cases hcn : i < l.length
   ·have hlt : decide ((i : Int) < (l.length : Int)) = true := decide_eq_true (by omega)
    refine a_cond (b := decide ((i : Int) < (l.length : Int))) rfl ?_
    rw [if_pos hlt]
    refine a_skip (a_next (a_seq (a_block (a_seq ?_))))
    refine c_awp_at (st' := ⟨[.agg [.p (.int .i64 n), .p (.sl 4 (bnd_es l) false)], .p (.sl 1 (ints_v set) false), .p (.int .i64 ((a : Int))), .p (.int .i64 (((k + 1 : Nat) : Int))), .ptr 0 1 0, .und, .und, .und, .p (.sl 0 [] true), .p (.bool false), .und, .und, .und, .und, .und, .p (.int .i64 ((i : Int))), v16, v17, .p (.int .i64 (((k + 1 : Nat) : Int))), .p (.bool false), .und, .und, .und, .und, .und, .und, .und, .und, .und, .und, .und, .und, .und, .und, .und, .und, .und, .und, .und, .und, .und, .und, .und, .und, .und, .p (.int .i64 ((a : Int))), .p (.int .i64 ((i : Int))), .ptr 0 1 (0 + 1), .p (.sl 4 (bnd_es l) false), .p (.int .i64 ((l.length : Int))), .p (.bool true), v51, v52, v53, v54, v55, v56, v57, v58, v59, v60, v61, v62, v63, v64, v65, v66, v67, v68], [⟨1, .live, [.p (.int .i64 n), .p (.sl 4 (bnd_es l) false)]⟩, ⟨0, .dead, []⟩, ⟨0, .dead, []⟩, ⟨0, .dead, []⟩, ⟨0, .dead, []⟩, b5, b6, ⟨0, .dead, []⟩]⟩) (by rw [hlt]; kernel_rfl) ?_
    refine a_regd (ad_op rfl (ad_op rfl (ad_call (v := .p (.sl 1 (ints_v set) true)) rfl rfl (rw_Clip set) (ad_op rfl (ad_op rfl ?_)))))
    refine ad_at (st' := ⟨[.agg [.p (.int .i64 n), .p (.sl 4 (bnd_es l) false)], .p (.sl 1 (ints_v set) false), .p (.int .i64 ((a : Int))), .p (.int .i64 (((k + 1 : Nat) : Int))), .ptr 0 1 0, .und, .und, .und, .p (.sl 0 [] true), .p (.bool false), .und, .und, .und, .und, .und, .p (.int .i64 ((i : Int))), v16, v17, .p (.int .i64 (((k + 1 : Nat) : Int))), .p (.bool false), .und, .und, .und, .und, .und, .und, .und, .und, .und, .und, .und, .und, .und, .und, .und, .und, .und, .und, .und, .und, .und, .und, .und, .und, .und, .p (.int .i64 ((a : Int))), .p (.int .i64 ((i : Int))), .ptr 0 1 (0 + 1), .p (.sl 4 (bnd_es l) false), .p (.int .i64 ((l.length : Int))), .p (.bool true), v51, v52, v53, .agg [.p (.int .i64 n), .p (.sl 4 (bnd_es l) false)], .p (.sl 1 (ints_v set) false), .p (.sl 1 (ints_v set) true), .p (.int .i64 ((i : Int))), .p (.sl 1 (ints_v [(i : Int)]) true), v59, v60, v61, v62, v63, v64, v65, v66, v67, v68], [⟨1, .live, [.p (.int .i64 n), .p (.sl 4 (bnd_es l) false)]⟩, ⟨0, .dead, []⟩, ⟨0, .dead, []⟩, ⟨0, .dead, []⟩, ⟨0, .dead, []⟩, b5, b6, ⟨0, .dead, []⟩]⟩) (by kernel_rfl) rfl ?_
    refine ad_op (v := .ref 6 (b6.ver + 1) 0 (set.length + 1) 1) (hp' := [⟨1, .live, [.p (.int .i64 n), .p (.sl 4 (bnd_es l) false)]⟩, ⟨0, .dead, []⟩, ⟨0, .dead, []⟩, ⟨0, .dead, []⟩, ⟨0, .dead, []⟩, b5, ⟨b6.ver + 1, .live, ((ints_v (set ++ [(i : Int)])).flatten.map V.p)⟩, ⟨0, .dead, []⟩]) ?_ ?_
    ·have hs5 : sliceP [⟨1, .live, [.p (.int .i64 n), .p (.sl 4 (bnd_es l) false)]⟩, ⟨0, .dead, []⟩, ⟨0, .dead, []⟩, ⟨0, .dead, []⟩, ⟨0, .dead, []⟩, b5, b6, ⟨0, .dead, []⟩] 1 (.p (.sl 1 (ints_v [(i : Int)]) true)) = some (ints_v [(i : Int)]) := rfl
     match set, hset with
     | [], _ => exact (a_app1 (b := b6) hs5 rfl rfl (show 1 * 8 ≤ 140737488355328 by decide)).trans rfl
     | z :: s, hset =>
      have hl2 : (ints_v s).length = s.length := by simp [ints_v]
      rw [List.length_cons] at hset
      have e : ((ints_v ((z :: s) ++ [(i : Int)])).flatten.map V.p) = (([.int .i64 z] :: ints_v s) ++ ints_v [(i : Int)]).flatten.map V.p := by
       rw [show ([.int .i64 z] :: ints_v s) = ints_v (z :: s) from rfl, List.flatten_append, ints_flat, ints_flat, ints_flat]; simp
      rw [e]
      refine (a_app2 (b := b6) (e := [.int .i64 z]) (es := ints_v s) (new := ints_v [(i : Int)]) hs5 rfl rfl ⟨rfl, Nat.zero_lt_one, show ((ints_v s).length + 1 + 1) * 8 ≤ 140737488355328 by rw [hl2]; omega⟩).trans ?_
      rw [hl2]; rfl
    refine ad_op rfl (ad_opw (n' := ((i + 1 : Nat) : Int)) (wrap_nat (by omega)) rfl (ad_op rfl (ad_opw (n' := (k : Int)) ?_ rfl ?_)))
    ·rw [wrap_id (by omega) (by omega)]; omega
    refine ad_call (as' := [.agg [.p (.int .i64 n), .p (.sl 4 (bnd_es l) false)], .p (.sl 1 (ints_v (set ++ [(i : Int)])) false), .p (.int .i64 (((i + 1 : Nat) : Int))), .p (.int .i64 ((k : Int)))]) (v := .tup [.p (.sl 1 (ints_v (R i).1) false), .p (.bool (R i).2)]) ?_ rfl (hr i hai hcn) ?_
    ·have hs := ints_slice (hp := [⟨1, .live, [.p (.int .i64 n), .p (.sl 4 (bnd_es l) false)]⟩, ⟨0, .dead, []⟩, ⟨0, .dead, []⟩, ⟨0, .dead, []⟩, ⟨0, .dead, []⟩, b5, ⟨b6.ver + 1, .live, ((ints_v (set ++ [(i : Int)])).flatten.map V.p)⟩, ⟨0, .dead, []⟩]) (t := 6) (ver := b6.ver + 1) (s := set ++ [(i : Int)]) rfl rfl
     rw [List.length_append] at hs
     refine optAll4 rfl ?_ rfl rfl
     show (sliceP [⟨1, .live, [.p (.int .i64 n), .p (.sl 4 (bnd_es l) false)]⟩, ⟨0, .dead, []⟩, ⟨0, .dead, []⟩, ⟨0, .dead, []⟩, ⟨0, .dead, []⟩, b5, ⟨b6.ver + 1, .live, ((ints_v (set ++ [(i : Int)])).flatten.map V.p)⟩, ⟨0, .dead, []⟩] 1 (.ref 6 (b6.ver + 1) 0 (set.length + 1) 1)).map (fun es => V.p (.sl 1 es false)) = _
     rw [show set.length + 1 = set.length + [(i : Int)].length from rfl, hs]; rfl
    refine ad_op rfl (ad_op rfl (ad_op rfl (ad_op rfl (ad_op rfl (ad_end (by rfl) (a_next ?_))))))
    refine c_awp_at (st' := ⟨[.agg [.p (.int .i64 n), .p (.sl 4 (bnd_es l) false)], .p (.sl 1 (ints_v set) false), .p (.int .i64 ((a : Int))), .p (.int .i64 (((k + 1 : Nat) : Int))), .ptr 0 1 0, .und, .und, .und, .p (.sl 0 [] true), .p (.bool false), .und, .und, .und, .und, .und, .p (.int .i64 ((i : Int))), .p (.sl 1 (ints_v (R i).1) false), .p (.bool (R i).2), .p (.int .i64 (((k + 1 : Nat) : Int))), .p (.bool false), .und, .und, .und, .und, .und, .und, .und, .und, .und, .und, .und, .und, .und, .und, .und, .und, .und, .und, .und, .und, .und, .und, .und, .und, .und, .p (.int .i64 ((a : Int))), .p (.int .i64 ((i : Int))), .ptr 0 1 (0 + 1), .p (.sl 4 (bnd_es l) false), .p (.int .i64 ((l.length : Int))), .p (.bool true), v51, v52, .tup [.p (.sl 1 (ints_v (R i).1) false), .p (.bool (R i).2)], .agg [.p (.int .i64 n), .p (.sl 4 (bnd_es l) false)], .p (.sl 1 (ints_v set) false), .p (.sl 1 (ints_v set) true), .p (.int .i64 ((i : Int))), .p (.sl 1 (ints_v [(i : Int)]) true), .ref 6 (b6.ver + 1) 0 (set.length + 1) 1, .p (.int .i64 ((i : Int))), .p (.int .i64 (((i + 1 : Nat) : Int))), .p (.int .i64 (((k + 1 : Nat) : Int))), .p (.int .i64 ((k : Int))), .tup [.p (.sl 1 (ints_v (R i).1) false), .p (.bool (R i).2)], .p (.sl 1 (ints_v (R i).1) false), .p (.bool (R i).2), v67, v68], [⟨1, .live, [.p (.int .i64 n), .p (.sl 4 (bnd_es l) false)]⟩, ⟨0, .dead, []⟩, ⟨0, .dead, []⟩, ⟨0, .dead, []⟩, ⟨0, .dead, []⟩, b5, ⟨b6.ver + 1, .frozen, ((ints_v (set ++ [(i : Int)])).flatten.map V.p)⟩, ⟨0, .dead, []⟩]⟩) (by kernel_rfl) ?_
    refine a_seq (a_reg (a_op rfl (a_end (a_next ?_))))
    refine c_awp_at (st' := ⟨[.agg [.p (.int .i64 n), .p (.sl 4 (bnd_es l) false)], .p (.sl 1 (ints_v set) false), .p (.int .i64 ((a : Int))), .p (.int .i64 (((k + 1 : Nat) : Int))), .ptr 0 1 0, .und, .und, .und, .p (.sl 0 [] true), .p (.bool false), .und, .und, .und, .und, .und, .p (.int .i64 ((i : Int))), .p (.sl 1 (ints_v (R i).1) false), .p (.bool (R i).2), .p (.int .i64 (((k + 1 : Nat) : Int))), .p (.bool false), .und, .und, .und, .und, .und, .und, .und, .und, .und, .und, .und, .und, .und, .und, .und, .und, .und, .und, .und, .und, .und, .und, .und, .und, .und, .p (.int .i64 ((a : Int))), .p (.int .i64 ((i : Int))), .ptr 0 1 (0 + 1), .p (.sl 4 (bnd_es l) false), .p (.int .i64 ((l.length : Int))), .p (.bool true), v51, v52, .tup [.p (.sl 1 (ints_v (R i).1) false), .p (.bool (R i).2)], .agg [.p (.int .i64 n), .p (.sl 4 (bnd_es l) false)], .p (.sl 1 (ints_v set) false), .p (.sl 1 (ints_v set) true), .p (.int .i64 ((i : Int))), .p (.sl 1 (ints_v [(i : Int)]) true), .ref 6 (b6.ver + 1) 0 (set.length + 1) 1, .p (.int .i64 ((i : Int))), .p (.int .i64 (((i + 1 : Nat) : Int))), .p (.int .i64 (((k + 1 : Nat) : Int))), .p (.int .i64 ((k : Int))), .tup [.p (.sl 1 (ints_v (R i).1) false), .p (.bool (R i).2)], .p (.sl 1 (ints_v (R i).1) false), .p (.bool (R i).2), .p (.bool (R i).2), v68], [⟨1, .live, [.p (.int .i64 n), .p (.sl 4 (bnd_es l) false)]⟩, ⟨0, .dead, []⟩, ⟨0, .dead, []⟩, ⟨0, .dead, []⟩, ⟨0, .dead, []⟩, b5, ⟨b6.ver + 1, .frozen, ((ints_v (set ++ [(i : Int)])).flatten.map V.p)⟩, ⟨0, .dead, []⟩]⟩) (by kernel_rfl) ?_
    refine a_cond (b := (R i).2) rfl ?_
    have hstep : List.range' i (l.length - i) = i :: List.range' (i + 1) (l.length - (i + 1)) := by rw [show l.length - i = (l.length - (i + 1)) + 1 by omega, List.range'_succ]
    cases hRi : (R i).2
    ·rw [if_neg (by decide)]
     refine a_skip (a_bnorm (a_next (a_reg (a_op rfl (a_opw (n' := ((i + 1 : Nat) : Int)) (wrap_nat (by omega)) rfl (a_op rfl (a_end (a_next ?_))))))))
     refine c_unr_at (st' := ⟨[.agg [.p (.int .i64 n), .p (.sl 4 (bnd_es l) false)], .p (.sl 1 (ints_v set) false), .p (.int .i64 ((a : Int))), .p (.int .i64 (((k + 1 : Nat) : Int))), .ptr 0 1 0, .und, .und, .und, .p (.sl 0 [] true), .p (.bool false), .und, .und, .und, .und, .und, .p (.int .i64 (((i + 1 : Nat) : Int))), .p (.sl 1 (ints_v (R i).1) false), .p (.bool false), .p (.int .i64 (((k + 1 : Nat) : Int))), .p (.bool false), .und, .und, .und, .und, .und, .und, .und, .und, .und, .und, .und, .und, .und, .und, .und, .und, .und, .und, .und, .und, .und, .und, .und, .und, .und, .p (.int .i64 ((a : Int))), .p (.int .i64 ((i : Int))), .ptr 0 1 (0 + 1), .p (.sl 4 (bnd_es l) false), .p (.int .i64 ((l.length : Int))), .p (.bool true), .p (.int .i64 ((i : Int))), .p (.int .i64 (((i + 1 : Nat) : Int))), .tup [.p (.sl 1 (ints_v (R i).1) false), .p (.bool false)], .agg [.p (.int .i64 n), .p (.sl 4 (bnd_es l) false)], .p (.sl 1 (ints_v set) false), .p (.sl 1 (ints_v set) true), .p (.int .i64 ((i : Int))), .p (.sl 1 (ints_v [(i : Int)]) true), .ref 6 (b6.ver + 1) 0 (set.length + 1) 1, .p (.int .i64 ((i : Int))), .p (.int .i64 (((i + 1 : Nat) : Int))), .p (.int .i64 (((k + 1 : Nat) : Int))), .p (.int .i64 ((k : Int))), .tup [.p (.sl 1 (ints_v (R i).1) false), .p (.bool false)], .p (.sl 1 (ints_v (R i).1) false), .p (.bool false), .p (.bool false), v68], [⟨1, .live, [.p (.int .i64 n), .p (.sl 4 (bnd_es l) false)]⟩, ⟨0, .dead, []⟩, ⟨0, .dead, []⟩, ⟨0, .dead, []⟩, ⟨0, .dead, []⟩, b5, ⟨b6.ver + 1, .frozen, ((ints_v (set ++ [(i : Int)])).flatten.map V.p)⟩, ⟨0, .dead, []⟩]⟩) (by kernel_rfl) ?_
     refine ih (i + 1) _ _ _ _ _ _ _ _ _ _ _ _ _ _ _ _ _ _ _ _ _ _ _ _ _ _ _ (by omega) (by omega) (by omega) ?_ (by omega)
     rw [he, hstep]
     show cond (R i).2 _ _ = _
     rw [hRi]; rfl
    ·rw [if_pos rfl]
     refine a_seq (a_reg (a_op rfl (a_op rfl (a_op rfl (a_end (a_next (a_ret ?_)))))))
     show Q .ret _
     have hfin : v_fst R (List.range' a (l.length - a)) = ((R i).1, true) := by
      rw [he, hstep]
      show cond (R i).2 _ _ = _
      rw [hRi]; rfl
     rw [← hQ]
     refine ⟨_, rfl, ?_⟩
     have := hrv.2.2 (by rw [hfin])
     rw [this, hfin]; rfl
   ·have hlt : decide ((i : Int) < (l.length : Int)) = false := decide_eq_false (by omega)
    refine a_cond (b := decide ((i : Int) < (l.length : Int))) rfl ?_
    rw [if_neg (by rw [hlt]; decide)]
    refine a_exit ?_
    show AEx.seq _ Q .normal _
    refine a_next (a_seq (a_reg (a_op rfl (a_op rfl (a_end (a_next (a_ret ?_)))))))
    have hfin : v_fst R (List.range' a (l.length - a)) = ([], false) := by
     rw [he, show l.length - i = 0 by omega]; rfl
    rw [← hQ]
    refine ⟨_, rfl, ?_⟩
    rw [(hrv.2.1 (by rw [hfin])).2]; rfl
 refine a_seq (a_reg (a_op rfl (a_op rfl (a_op rfl (a_end (a_next ?_))))))
 refine a_seq (a_seq (a_reg (a_op rfl (a_op rfl (a_end (a_next (a_cond (b := false) ?_ ?_)))))))
 ·show V.p (.bool (decide (((k + 1 : Nat) : Int) = 0))) = _
  rw [decide_eq_false (by omega)]
 rw [if_neg (by decide)]
 refine a_skip (a_next (a_seq (a_seq (a_reg (a_op rfl (a_op rfl (a_end (a_next ?_))))))))
 refine a_block (m_loop_unr (l.length + 2) ?_)
 refine c_unr_at (st' := ⟨[.agg [.p (.int .i64 n), .p (.sl 4 (bnd_es l) false)], .p (.sl 1 (ints_v set) false), .p (.int .i64 ((a : Int))), .p (.int .i64 (((k + 1 : Nat) : Int))), .ptr 0 1 0, .und, .und, .und, .p (.sl 0 [] true), .p (.bool false), .und, .und, .und, .und, .und, .p (.int .i64 ((a : Int))), .und, .und, .p (.int .i64 (((k + 1 : Nat) : Int))), .p (.bool false), .und, .und, .und, .und, .und, .und, .und, .und, .und, .und, .und, .und, .und, .und, .und, .und, .und, .und, .und, .und, .und, .und, .und, .und, .und, .p (.int .i64 ((a : Int))), .und, .und, .und, .und, .und, .und, .und, .und, .und, .und, .und, .und, .und, .und, .und, .und, .und, .und, .und, .und, .und, .und, .und], [⟨1, .live, [.p (.int .i64 n), .p (.sl 4 (bnd_es l) false)]⟩, ⟨0, .dead, []⟩, ⟨0, .dead, []⟩, ⟨0, .dead, []⟩, ⟨0, .dead, []⟩, ⟨0, .dead, []⟩, ⟨0, .dead, []⟩, ⟨0, .dead, []⟩]⟩) ?_ ?_
 ·have hz : decide (((k + 1 : Nat) : Int) = 0) = false := decide_eq_false (by omega)
  show (⟨_, _⟩ : St) = _
  rw [← hz]; kernel_rfl
 exact loop (l.length + 2) a _ _ _ _ _ _ _ _ _ _ _ _ _ _ _ _ _ _ _ _ _ _ _ _ _ _ _ (by omega) (by omega) (by omega) rfl (by omega)
/-- The first set that grows out of one by so many, and contradicts itself. -/
def v_clash (n : Int) (l : List (Int × Int × Int × Int)) : Nat → List Int → Nat → List Int × Bool
 | 0, set, _ => (set, !(v_grt n (v_pick l set)).2)
 | k + 1, set, a => v_fst (fun i => v_clash n l k (set ++ [(i : Int)]) (i + 1)) (List.range' a (l.length - a))
theorem l_gravity_clash_0 (p0 : Int × List (Int × Int × Int × Int)) (p1 : List Int) (p2 p3 : Int) (h : v_setok p0.1 p0.2 p1) : OkL (st_gravity_clash_0 p0 p1 p2 p3) (sp_gravity_clash_0 p0 p1 p2 p3) (0, []) ∧ lpv ([], false) (st_gravity_clash_0 p0 p1 p2 p3) (0, []) = (p1, !(v_grt p0.1 (v_pick p0.2 p1)).2) := by
 have few := h.few
 refine list_is (fun i (t : List (Int × Int × Int × Int)) => (i, t)) p1 0 (fun r t => r.length ≤ p1.length ∧ (∀ i ∈ r, 0 ≤ i ∧ i < (p0.2.length : Int)) ∧ t ++ v_pick p0.2 r = v_pick p0.2 p1) (fun _ _ => (p1, !(v_grt p0.1 (v_pick p0.2 p1)).2)) (lenOk_le (n := 12) few (by decide)) ?_ ?_ [] ⟨Nat.le_refl _, h.idx, rfl⟩
 ·intro t ⟨_, _, ht⟩
  have hd : decide ((p1.length : Int) < (p1.length : Nat)) = false := decide_eq_false (by omega)
  have ht' : t = v_pick p0.2 p1 := by simpa [v_pick] using ht
  subst ht'
  refine ⟨by simp only [sp_gravity_clash_0, List.forall_mem_cons, hd]; exact ⟨fun h => (by cases h), fun h => (by cases h), fun h => (by cases h), fun h => (by cases h), fun h => (by cases h), fun _ => h.pick, by simp⟩, ?_⟩
  simp only [st_gravity_clash_0, hd, cond_false]
 ·intro j t hj ⟨_, hi, ht⟩
  have hd : decide ((j : Int) < (p1.length : Nat)) = true := decide_eq_true (by omega)
  have hx := hi (p1.getD j 0) (by simp)
  have htl : t.length ≤ p1.length := by have := congrArg List.length ht; simp [v_pick] at this; omega
  refine ⟨?_, .inl ⟨t ++ [p0.2.getD (p1.getD j 0).toNat (0, 0, 0, 0)], ?_, ?_, rfl⟩⟩
  ·simp only [sp_gravity_clash_0, List.forall_mem_cons, Int.toNat_natCast, hd, List.length_cons, List.length_nil]
   exact ⟨fun _ => by omega, fun _ => by omega, fun _ => hx.1, fun _ => hx.2, fun _ => by omega, fun h => (by cases h), by simp⟩
  ·simp only [st_gravity_clash_0, hd, cond_true, Int.toNat_natCast, wrap_nat (show (j : Int) ≤ 9223372036854775806 by omega)]
  ·refine ⟨by simp, fun i hi' => hi i (by simp [hi']), ?_⟩
   rw [← ht, List.append_assoc]; rfl
theorem rb_clash (p0 : Int × List (Int × Int × Int × Int)) (p1 : List Int) (p2 : Int) (h : v_setok p0.1 p0.2 p1) : Ret Tryd.prog 124 (valPs P_gravity_clash (p0, p1, p2, 0)) (valR R_gravity_clash (p1, !(v_grt p0.1 (v_pick p0.2 p1)).2)) := by
 obtain ⟨h1, h2⟩ := l_gravity_clash_0 p0 p1 p2 0 h
 refine ret_tf (ps := P_gravity_clash) (rs := R_gravity_clash) (x := (p0, p1, p2, 0)) (y := (p1, !(v_grt p0.1 (v_pick p0.2 p1)).2)) e_gravity_clash hC_gravity_clash (tf_of (w_gravity_clash_eq p0 p1 p2 0 (fun z => z = (p1, !(v_grt p0.1 (v_pick p0.2 p1)).2))) (d_gravity_clash p0 p1 p2 0 (fun z => z = (p1, !(v_grt p0.1 (v_pick p0.2 p1)).2)) ?_ ?_))
 ·simp only [pre_gravity_clash, List.forall_mem_cons]
  exact ⟨fun _ => h1, fun h => (by cases h), by simp⟩
 ·show cond ((0 : Int) == 0) _ _ = _
  exact h2
theorem ra_clash (n : Int) (l : List (Int × Int × Int × Int)) : ∀ (k : Nat) (set : List Int) (a : Nat), v_setok n l set → set.length + k ≤ 12 → a ≤ 100 →
  Ret Tryd.prog 124 [.agg [.p (.int .i64 n), .p (.sl 4 (bnd_es l) false)], .p (.sl 1 (ints_v set) false), .p (.int .i64 (a : Int)), .p (.int .i64 (k : Int))] (.tup [.p (.sl 1 (ints_v (v_clash n l k set a).1) false), .p (.bool (v_clash n l k set a).2)])
 | 0, set, a, h, _, _ => rb_clash (n, l) set (a : Int) h
 | k + 1, set, a, h, hs, ha => by
  have hl := h.nok.1.len
  refine rw_clash n l (by omega) k (by omega) set (by omega) a (by omega) (fun i => v_clash n l k (set ++ [(i : Int)]) (i + 1)) fun i hi1 hi2 => ?_
  refine ra_clash n l k (set ++ [(i : Int)]) (i + 1) ⟨h.nok, by simp; omega, fun j hj => ?_⟩ (by simp; omega) (by omega)
  rcases List.mem_append.1 hj with hj | hj
  ·exact h.idx j hj
  ·simp at hj; subst hj; omega
structure v_clok (p0 : Int × List (Int × Int × Int × Int)) (p1 : List Int) (p2 p3 : Int) : Prop where
 ok : v_setok p0.1 p0.2 p1
 a : 0 ≤ p2 ∧ p2 ≤ 100
 k : 0 ≤ p3
 few : p1.length + p3.toNat ≤ 12
def v_clashI (p0 : Int × List (Int × Int × Int × Int)) (p1 : List Int) (p2 p3 : Int) : List Int × Bool := v_clash p0.1 p0.2 p3.toNat p1 p2.toNat

abbrev con_gravity_clash : Con := ⟨P_gravity_clash, R_gravity_clash, fun x => [v_clok x.1 x.2.1 x.2.2.1 x.2.2.2], fun x => v_clashI x.1 x.2.1 x.2.2.1 x.2.2.2⟩
theorem ok_gravity_clash : ConOk Tryd.prog 124 con_gravity_clash := ⟨k_gravity_clash, fun x hx => by
 obtain ⟨p0, p1, p2, p3⟩ := x
 obtain ⟨h1, h2, h3, h4⟩ := (conj_of hx).1
 simp only at h1 h2 h3 h4
 obtain ⟨a, rfl⟩ := Int.eq_ofNat_of_zero_le h2.1
 obtain ⟨k, rfl⟩ := Int.eq_ofNat_of_zero_le h3
 exact ra_clash p0.1 p0.2 k p1 a h1 (by omega) (by omega)⟩
/- slices_Cloneint_int -/
def C_slices_Cloneint_int : Cons := []
theorem hC_slices_Cloneint_int : ConsOk Tryd.prog C_slices_Cloneint_int := ConsOk.nil
def w_slices_Cloneint_int (p0 : (List Int)) (K : (List Int) → Prop) : Prop :=
  ((((List.length p0) = 0) →
 (K ([] : List Int))) ∧
 (((((List.length ([] : List Int)) + (List.length p0)) * 8) ≤ 140737488355328) ∧
 (K (([] : List Int) ++ p0))))
set_option maxHeartbeats 4000000 in
theorem w_slices_Cloneint_int_eq (p0 : (List Int)) (K : (List Int) → Prop) : tfnO F_slices_Cloneint_int A_slices_Cloneint_int C_slices_Cloneint_int P_slices_Cloneint_int E_slices_Cloneint_int p0 K = w_slices_Cloneint_int p0 K := by kernel_rfl
def s_slices_Cloneint_int (p0 : List Int) : List Int := p0
abbrev pre_slices_Cloneint_int (p0 : List Int) : List Prop := [p0.length ≤ 1000000]
theorem d_slices_Cloneint_int (p0 : List Int) (K : List Int → Prop) (hp : ∀ p ∈ pre_slices_Cloneint_int p0, p) (h : K (s_slices_Cloneint_int p0)) : w_slices_Cloneint_int p0 K := by
 have h1 := (conj_of hp).1
 refine ⟨fun e => ?_, by simp only [List.length_nil]; omega, h⟩
 have : p0 = [] := List.eq_nil_of_length_eq_zero e
 subst this; exact h

abbrev con_slices_Cloneint_int : Con := ⟨P_slices_Cloneint_int, [.one (.sl E_slices_Cloneint_int)], fun x => pre_slices_Cloneint_int x, fun x => s_slices_Cloneint_int x⟩
theorem ok_slices_Cloneint_int : ConOOk Tryd.prog 125 con_slices_Cloneint_int := conO_tf (e := E_slices_Cloneint_int) (ps := P_slices_Cloneint_int) k_slices_Cloneint_int e_slices_Cloneint_int hC_slices_Cloneint_int (fun x hx => tfo_of (w_slices_Cloneint_int_eq x (fun z => z = s_slices_Cloneint_int x)) (d_slices_Cloneint_int x (fun z => z = s_slices_Cloneint_int x) hx rfl))
/- gravity_ClashOf -/
def C_gravity_ClashOf : Cons := [(41, [], con_gravity_CheckNet), (106, [], con_gravity_greatest), (124, [], con_gravity_clash), (125, ownMark, con_slices_Cloneint_int)]
theorem hC_gravity_ClashOf : ConsOk Tryd.prog C_gravity_ClashOf := ConsOk.cons ok_gravity_CheckNet <| ConsOk.cons ok_gravity_greatest <| ConsOk.cons ok_gravity_clash <| ConsOk.consO ok_slices_Cloneint_int <| ConsOk.nil
def w_gravity_ClashOf (p0 : N5) (K : ((List Int) × Int) → Prop) : Prop :=
  (((((v_net p0).2 != (0 : Int)) = true) →
 (K (([] : List Int), (v_net p0).2))) ∧
 ((((v_net p0).2 != (0 : Int)) = false) →
 ((v_nokI p0.1 p0.2) ∧
  ((((v_grt p0.1 p0.2).2 = true) →
  (K (([] : List Int), (12 : Int)))) ∧
  (((v_grt p0.1 p0.2).2 = false) →
  (∃ n0, (loopP (fun (y1 : Int) k2 =>
    ((((decide (y1 < (IntKind.i64.wrap ((List.length p0.2 : Int) + (1 : Int))))) = true) →
    ((v_clok p0 ([] : List Int) (0 : Int) y1) ∧
     ((((v_clashI p0 ([] : List Int) (0 : Int) y1).2 = true) →
     (((List.length (v_clashI p0 ([] : List Int) (0 : Int) y1).1) ≤ 1000000) ∧
      (K ((v_clashI p0 ([] : List Int) (0 : Int) y1).1, (0 : Int))))) ∧
     (((v_clashI p0 ([] : List Int) (0 : Int) y1).2 = false) →
     (k2 (IntKind.i64.wrap (y1 + (1 : Int)))))))) ∧
    (((decide (y1 < (IntKind.i64.wrap ((List.length p0.2 : Int) + (1 : Int))))) = false) →
    (K (([] : List Int), (12 : Int)))))) n0 (0 : Int))))))))
set_option maxHeartbeats 4000000 in
theorem w_gravity_ClashOf_eq (p0 : N5) (K : ((List Int) × Int) → Prop) : tfn F_gravity_ClashOf A_gravity_ClashOf C_gravity_ClashOf P_gravity_ClashOf R_gravity_ClashOf p0 K = w_gravity_ClashOf p0 K := by kernel_rfl
def st_gravity_ClashOf_0 (p0 : N5) (y2 : Int) : Int ⊕ ((List Int) × Int) :=
 (cond (decide (y2 < (IntKind.i64.wrap ((List.length p0.2 : Int) + (1 : Int))))) (cond (v_clashI p0 ([] : List Int) (0 : Int) y2).2 (Sum.inr ((v_clashI p0 ([] : List Int) (0 : Int) y2).1, (0 : Int)))
  (Sum.inl (IntKind.i64.wrap (y2 + (1 : Int)))))
  (Sum.inr (([] : List Int), (12 : Int))))
abbrev sp_gravity_ClashOf_0 (p0 : N5) (y2 : Int) : List Prop := [(((decide (y2 < (IntKind.i64.wrap ((List.length p0.2 : Int) + (1 : Int))))) = true) → (v_clok p0 ([] : List Int) (0 : Int) y2)),
  (((decide (y2 < (IntKind.i64.wrap ((List.length p0.2 : Int) + (1 : Int))))) = true) → (((v_clashI p0 ([] : List Int) (0 : Int) y2).2 = true) → ((List.length (v_clashI p0 ([] : List Int) (0 : Int) y2).1) ≤ 1000000)))]
def s_gravity_ClashOf (p0 : N5) : ((List Int) × Int) :=
 (cond ((v_net p0).2 != (0 : Int)) (([] : List Int), (v_net p0).2)
  (cond (v_grt p0.1 p0.2).2 (([] : List Int), (12 : Int))
  (lpv ([], (0 : Int)) (st_gravity_ClashOf_0 p0) (0 : Int))))
abbrev pre_gravity_ClashOf (p0 : N5) : List Prop := [((((v_net p0).2 != (0 : Int)) = false) → (v_nokI p0.1 p0.2)),
  ((((v_net p0).2 != (0 : Int)) = false) → (((v_grt p0.1 p0.2).2 = false) → (OkL (st_gravity_ClashOf_0 p0) (sp_gravity_ClashOf_0 p0) (0 : Int))))]
set_option maxHeartbeats 4000000 in
theorem d_gravity_ClashOf (p0 : N5) (K : ((List Int) × Int) → Prop) (hp : ∀ p ∈ pre_gravity_ClashOf p0, p) (h : K (s_gravity_ClashOf p0)) : w_gravity_ClashOf p0 K := by
 unfold w_gravity_ClashOf
 unfold s_gravity_ClashOf at h
 obtain ⟨hp0, hp1, _⟩ := conj_of hp
 exact (br' h (fun e0 h => h)
  (fun e0 h => ⟨(hp0 e0), (br' h (fun e1 h => h)
  (fun e1 h => (loop_gen (hp1 e0 e1) h (fun y2 k2 hp h => by
 unfold st_gravity_ClashOf_0 at h; obtain ⟨hp0, hp1, _⟩ := conj_of hp
 exact (br' h (fun e3 h => ⟨(hp0 e3), (br' h (fun e4 h => ⟨(hp1 e3 e4), h⟩)
  (fun e4 h => h))⟩)
  (fun e3 h => h))))))⟩))
theorem v_fst_get {f : Nat → List Int × Bool} {P : List Int × Bool → Prop} (h : ∀ i, (f i).2 = true → P ((f i).1, true)) : ∀ q, (v_fst f q).2 = true → P (v_fst f q)
 | [], e => by cases e
 | i :: q, e => by
  unfold v_fst at e ⊢
  cases hi : (f i).2 <;> rw [hi] at e
  ·exact v_fst_get h q e
  ·exact h i hi
theorem v_clash_len (n : Int) (l : List (Int × Int × Int × Int)) : ∀ (k : Nat) (set : List Int) (a : Nat), (v_clash n l k set a).2 = true → (v_clash n l k set a).1.length = set.length + k
 | 0, _, _, _ => rfl
 | k + 1, set, a, h => by
  refine v_fst_get (P := fun r => r.1.length = set.length + (k + 1)) (fun i hi => ?_) _ h
  have := v_clash_len n l k _ _ hi
  simp only at this ⊢
  rw [this]; simp; omega
/-- The first set of ties that contradicts itself, by its size. -/
def v_clsets (p0 : Int × List (Int × Int × Int × Int)) (q : List Nat) : List Int × Bool := v_fst (fun c => v_clash p0.1 p0.2 c [] 0) q
def v_clashes (p0 : Int × List (Int × Int × Int × Int)) : List Int × Bool := v_clsets p0 (List.range' 0 (p0.2.length + 1))
def v_clans (r : List Int × Bool) : List Int × Int := cond r.2 (r.1, 0) ([], 12)
def v_clof (p0 : Int × List (Int × Int × Int × Int)) : List Int × Int := cond ((v_net p0).2 != 0) ([], (v_net p0).2) (cond (v_grt p0.1 p0.2).2 ([], 12) (v_clans (v_clashes p0)))
theorem l_gravity_ClashOf (p0 : Int × List (Int × Int × Int × Int)) (h : v_nokI p0.1 p0.2) : OkL (st_gravity_ClashOf_0 p0) (sp_gravity_ClashOf_0 p0) 0 ∧ lpv ([], 0) (st_gravity_ClashOf_0 p0) 0 = v_clans (v_clashes p0) := by
 have h12 := h.1.len
 have := for_is (dd := (([] : List Int), (0 : Int))) (st := st_gravity_ClashOf_0 p0) (sp := sp_gravity_ClashOf_0 p0) (fun i (_ : Unit) => i) 0 (p0.2.length + 1) (fun _ _ => True) (fun j _ => v_clans (v_clsets p0 (List.range' j (p0.2.length + 1 - j)))) (by omega) (by omega) ?_ ?_ () trivial
 ·exact this
 ·intro _ _
  have hd : decide (((p0.2.length + 1 : Nat) : Int) < IntKind.i64.wrap ((p0.2.length : Int) + 1)) = false := by rw [wrap_id (by omega) (by omega)]; exact decide_eq_false (by omega)
  refine ⟨by simp only [sp_gravity_ClashOf_0, List.forall_mem_cons, hd]; simp, ?_⟩
  simp only [st_gravity_ClashOf_0, hd, cond_false, Nat.sub_self]; rfl
 ·intro j _ _ hj _
  have hd : decide ((j : Int) < IntKind.i64.wrap ((p0.2.length : Int) + 1)) = true := by rw [wrap_id (by omega) (by omega)]; exact decide_eq_true (by omega)
  have hok : v_clok p0 [] 0 j := ⟨⟨h, by simp, by simp⟩, by omega, by omega, by simp; omega⟩
  have e : v_clashI p0 [] 0 j = v_clash p0.1 p0.2 j [] 0 := by simp [v_clashI]
  have hs : v_clsets p0 (List.range' j (p0.2.length + 1 - j)) = cond (v_clash p0.1 p0.2 j [] 0).2 ((v_clash p0.1 p0.2 j [] 0).1, true) (v_clsets p0 (List.range' (j + 1) (p0.2.length + 1 - (j + 1)))) := by
   rw [show p0.2.length + 1 - j = p0.2.length + 1 - (j + 1) + 1 by omega, List.range'_succ]; rfl
  refine ⟨?_, ?_⟩
  ·simp only [sp_gravity_ClashOf_0, List.forall_mem_cons, e]
   exact ⟨fun _ => hok, fun _ hc => by rw [v_clash_len _ _ _ _ _ hc]; simp; omega, by simp⟩
  ·simp only [st_gravity_ClashOf_0, hd, cond_true, e, hs, wrap_nat (show (j : Int) ≤ 9223372036854775806 by omega)]
   cases hc : (v_clash p0.1 p0.2 j [] 0).2
   ·exact .inl ⟨(), rfl, trivial, rfl⟩
   ·exact .inr rfl
abbrev t_gravity_ClashOf (p0 : Int × List (Int × Int × Int × Int)) : List Int × Int := v_clof p0
abbrev qre_gravity_ClashOf (_ : Int × List (Int × Int × Int × Int)) : List Prop := []
theorem pp_gravity_ClashOf (p0 : Int × List (Int × Int × Int × Int)) (_ : ∀ p ∈ qre_gravity_ClashOf p0, p) : ∀ p ∈ pre_gravity_ClashOf p0, p := by
 simp only [pre_gravity_ClashOf, List.forall_mem_cons]
 exact ⟨fun h => tx_net (bne0' h), fun h _ => (l_gravity_ClashOf p0 (tx_net (bne0' h))).1, by simp⟩
theorem tt_gravity_ClashOf (p0 : Int × List (Int × Int × Int × Int)) (_ : ∀ p ∈ qre_gravity_ClashOf p0, p) : s_gravity_ClashOf p0 = t_gravity_ClashOf p0 := by
 unfold s_gravity_ClashOf t_gravity_ClashOf v_clof
 cases h : ((v_net p0).2 != 0)
 ·rw [(l_gravity_ClashOf p0 (tx_net (bne0' h))).2]
 ·rfl

abbrev con_gravity_ClashOf : Con := ⟨P_gravity_ClashOf, R_gravity_ClashOf, fun x => qre_gravity_ClashOf x, fun x => t_gravity_ClashOf x⟩
theorem ok_gravity_ClashOf : ConOk Tryd.prog 80 con_gravity_ClashOf := ⟨k_gravity_ClashOf, fun x hx => ret_tf (ps := P_gravity_ClashOf) (rs := R_gravity_ClashOf) (x := x) (y := t_gravity_ClashOf x) e_gravity_ClashOf hC_gravity_ClashOf (tf_of (w_gravity_ClashOf_eq x (fun z => z = t_gravity_ClashOf x)) (d_gravity_ClashOf x (fun z => z = t_gravity_ClashOf x) (pp_gravity_ClashOf x hx) (tt_gravity_ClashOf x hx)))⟩
/- base_Within -/
def C_base_Within : Cons := []
theorem hC_base_Within : ConsOk Tryd.prog C_base_Within := ConsOk.nil
def w_base_Within (p0 : Int) (p1 : Int) (p2 : Int) (K : Bool → Prop) : Prop :=
  ((((decide (p1 ≤ p0)) = true) →
 ((decide (p1 ≤ p0)) = (decide (p1 ≤ p0)))) ∧
 ((((decide (p1 ≤ p0)) = true) →
 ((decide (p1 ≤ p0)) = (decide (p1 ≤ p0)))) ∧
 (((decide (p1 ≤ p0)) = (decide (p1 ≤ p0))) ∧
 (K (cond (decide (p1 ≤ p0)) (decide (p0 ≤ p2)) false)))))
set_option maxHeartbeats 4000000 in
theorem w_base_Within_eq (p0 : Int) (p1 : Int) (p2 : Int) (K : Bool → Prop) : tfn F_base_Within A_base_Within C_base_Within P_base_Within R_base_Within (p0, p1, p2) K = w_base_Within p0 p1 p2 K := by kernel_rfl
def s_base_Within (p0 : Int) (p1 : Int) (p2 : Int) : Bool :=
 (cond (decide (p1 ≤ p0)) (decide (p0 ≤ p2)) false)
abbrev pre_base_Within (p0 : Int) (p1 : Int) (p2 : Int) : List Prop := []
set_option maxHeartbeats 4000000 in
theorem d_base_Within (p0 : Int) (p1 : Int) (p2 : Int) (K : Bool → Prop) (hp : ∀ p ∈ pre_base_Within p0 p1 p2, p) (h : K (s_base_Within p0 p1 p2)) : w_base_Within p0 p1 p2 K := by
 unfold w_base_Within
 unfold s_base_Within at h
 exact ⟨rf, rf, rfl, h⟩
abbrev con_base_Within : Con := ⟨P_base_Within, R_base_Within, fun x => pre_base_Within x.1 x.2.1 x.2.2, fun x => s_base_Within x.1 x.2.1 x.2.2⟩
theorem ok_base_Within : ConOk Tryd.prog 60 con_base_Within := ⟨k_base_Within, fun x hx => ret_tf (ps := P_base_Within) (rs := R_base_Within) (x := x) (y := s_base_Within x.1 x.2.1 x.2.2) e_base_Within hC_base_Within (tf_of (w_base_Within_eq x.1 x.2.1 x.2.2 (fun z => z = s_base_Within x.1 x.2.1 x.2.2)) (d_base_Within x.1 x.2.1 x.2.2 (fun z => z = s_base_Within x.1 x.2.1 x.2.2) hx rfl))⟩
/- ref05_StationErr -/
def C_ref05_StationErr : Cons := [(60, [], con_base_Within)]
theorem hC_ref05_StationErr : ConsOk Tryd.prog C_ref05_StationErr := ConsOk.cons ok_base_Within <| ConsOk.nil
def w_ref05_StationErr (p0 : N5) (p1 : Int) (K : Int → Prop) : Prop :=
  ((((!(s_base_Within p1 (0 : Int) (IntKind.i64.wrap (p0.1 - (1 : Int))))) = true) →
 (K (6 : Int))) ∧
 (((!(s_base_Within p1 (0 : Int) (IntKind.i64.wrap (p0.1 - (1 : Int))))) = false) →
 (K (0 : Int))))
set_option maxHeartbeats 4000000 in
theorem w_ref05_StationErr_eq (p0 : N5) (p1 : Int) (K : Int → Prop) : tfn F_ref05_StationErr A_ref05_StationErr C_ref05_StationErr P_ref05_StationErr R_ref05_StationErr (p0, p1) K = w_ref05_StationErr p0 p1 K := by kernel_rfl
def s_ref05_StationErr (p0 : N5) (p1 : Int) : Int :=
 (cond (!(s_base_Within p1 (0 : Int) (IntKind.i64.wrap (p0.1 - (1 : Int))))) (6 : Int)
  (0 : Int))
abbrev pre_ref05_StationErr (p0 : N5) (p1 : Int) : List Prop := []
set_option maxHeartbeats 4000000 in
theorem d_ref05_StationErr (p0 : N5) (p1 : Int) (K : Int → Prop) (hp : ∀ p ∈ pre_ref05_StationErr p0 p1, p) (h : K (s_ref05_StationErr p0 p1)) : w_ref05_StationErr p0 p1 K := by
 unfold w_ref05_StationErr
 unfold s_ref05_StationErr at h
 exact (br' h (fun e0 h => h)
  (fun e0 h => h))
abbrev con_ref05_StationErr : Con := ⟨P_ref05_StationErr, R_ref05_StationErr, fun x => pre_ref05_StationErr x.1 x.2, fun x => s_ref05_StationErr x.1 x.2⟩
theorem ok_ref05_StationErr : ConOk Tryd.prog 83 con_ref05_StationErr := ⟨k_ref05_StationErr, fun x hx => ret_tf (ps := P_ref05_StationErr) (rs := R_ref05_StationErr) (x := x) (y := s_ref05_StationErr x.1 x.2) e_ref05_StationErr hC_ref05_StationErr (tf_of (w_ref05_StationErr_eq x.1 x.2 (fun z => z = s_ref05_StationErr x.1 x.2)) (d_ref05_StationErr x.1 x.2 (fun z => z = s_ref05_StationErr x.1 x.2) hx rfl))⟩
/- ref05_rangeErr -/
def C_ref05_rangeErr : Cons := [(60, [], con_base_Within)]
theorem hC_ref05_rangeErr : ConsOk Tryd.prog C_ref05_rangeErr := ConsOk.cons ok_base_Within <| ConsOk.nil
def w_ref05_rangeErr (p0 : (Int × Int)) (p1 : Int) (K : Int → Prop) : Prop :=
  ((((!(s_base_Within p0.1 (IntKind.i64.wrap ((0 : Int) - p1)) p1)) = false) →
 ((!(s_base_Within p0.1 (IntKind.i64.wrap ((0 : Int) - p1)) p1)) = (!(s_base_Within p0.1 (IntKind.i64.wrap ((0 : Int) - p1)) p1)))) ∧
 ((((!(s_base_Within p0.1 (IntKind.i64.wrap ((0 : Int) - p1)) p1)) = false) →
 ((!(s_base_Within p0.1 (IntKind.i64.wrap ((0 : Int) - p1)) p1)) = (!(s_base_Within p0.1 (IntKind.i64.wrap ((0 : Int) - p1)) p1)))) ∧
 ((((!(s_base_Within p0.1 (IntKind.i64.wrap ((0 : Int) - p1)) p1)) = false) →
 ((!(s_base_Within p0.1 (IntKind.i64.wrap ((0 : Int) - p1)) p1)) = (!(s_base_Within p0.1 (IntKind.i64.wrap ((0 : Int) - p1)) p1)))) ∧
 ((((!(s_base_Within p0.1 (IntKind.i64.wrap ((0 : Int) - p1)) p1)) = false) →
 ((!(s_base_Within p0.1 (IntKind.i64.wrap ((0 : Int) - p1)) p1)) = (!(s_base_Within p0.1 (IntKind.i64.wrap ((0 : Int) - p1)) p1)))) ∧
 ((((!(s_base_Within p0.1 (IntKind.i64.wrap ((0 : Int) - p1)) p1)) = false) →
 ((!(s_base_Within p0.1 (IntKind.i64.wrap ((0 : Int) - p1)) p1)) = (!(s_base_Within p0.1 (IntKind.i64.wrap ((0 : Int) - p1)) p1)))) ∧
 ((((!(s_base_Within p0.1 (IntKind.i64.wrap ((0 : Int) - p1)) p1)) = false) →
 ((!(s_base_Within p0.1 (IntKind.i64.wrap ((0 : Int) - p1)) p1)) = (!(s_base_Within p0.1 (IntKind.i64.wrap ((0 : Int) - p1)) p1)))) ∧
 (((!(s_base_Within p0.1 (IntKind.i64.wrap ((0 : Int) - p1)) p1)) = (!(s_base_Within p0.1 (IntKind.i64.wrap ((0 : Int) - p1)) p1))) ∧
 ((((cond (!(s_base_Within p0.1 (IntKind.i64.wrap ((0 : Int) - p1)) p1)) true (!(s_base_Within p0.2 (IntKind.i64.wrap ((0 : Int) - p1)) p1))) = true) →
 (K (2 : Int))) ∧
 (((cond (!(s_base_Within p0.1 (IntKind.i64.wrap ((0 : Int) - p1)) p1)) true (!(s_base_Within p0.2 (IntKind.i64.wrap ((0 : Int) - p1)) p1))) = false) →
 ((((decide (p0.1 > p0.2)) = true) →
  (K (9 : Int))) ∧
  (((decide (p0.1 > p0.2)) = false) →
  (K (0 : Int)))))))))))))
set_option maxHeartbeats 4000000 in
theorem w_ref05_rangeErr_eq (p0 : (Int × Int)) (p1 : Int) (K : Int → Prop) : tfn F_ref05_rangeErr A_ref05_rangeErr C_ref05_rangeErr P_ref05_rangeErr R_ref05_rangeErr (p0, p1) K = w_ref05_rangeErr p0 p1 K := by kernel_rfl
def s_ref05_rangeErr (p0 : (Int × Int)) (p1 : Int) : Int :=
 (cond (cond (!(s_base_Within p0.1 (IntKind.i64.wrap ((0 : Int) - p1)) p1)) true (!(s_base_Within p0.2 (IntKind.i64.wrap ((0 : Int) - p1)) p1))) (2 : Int)
  (cond (decide (p0.1 > p0.2)) (9 : Int)
  (0 : Int)))
abbrev pre_ref05_rangeErr (p0 : (Int × Int)) (p1 : Int) : List Prop := []
set_option maxHeartbeats 4000000 in
theorem d_ref05_rangeErr (p0 : (Int × Int)) (p1 : Int) (K : Int → Prop) (hp : ∀ p ∈ pre_ref05_rangeErr p0 p1, p) (h : K (s_ref05_rangeErr p0 p1)) : w_ref05_rangeErr p0 p1 K := by
 unfold w_ref05_rangeErr
 unfold s_ref05_rangeErr at h
 exact ⟨rf, rf, rf, rf, rf, rf, rfl, (br' h (fun e0 h => h)
  (fun e0 h => (br' h (fun e1 h => h)
  (fun e1 h => h))))⟩
theorem tx_eqw {n lo hi : Int} : s_base_Within n lo hi = s_gravity_within n lo hi := rfl
abbrev t_ref05_rangeErr (p0 : Int × Int) (p1 : Int) : Int := s_gravity_rangeErr p0 p1
abbrev qre_ref05_rangeErr (_ : Int × Int) (_ : Int) : List Prop := []
theorem pp_ref05_rangeErr (p0 : Int × Int) (p1 : Int) (_ : ∀ p ∈ qre_ref05_rangeErr p0 p1, p) : ∀ p ∈ pre_ref05_rangeErr p0 p1, p := by intro p hp; simp at hp
theorem tt_ref05_rangeErr (p0 : Int × Int) (p1 : Int) (_ : ∀ p ∈ qre_ref05_rangeErr p0 p1, p) : s_ref05_rangeErr p0 p1 = t_ref05_rangeErr p0 p1 := by
 unfold s_ref05_rangeErr t_ref05_rangeErr s_gravity_rangeErr s_gravity_isSized
 simp only [tx_eqw]
 rcases Int.lt_or_le p0.2 p0.1 with h | h
 ·have h' : ¬ p0.1 ≤ p0.2 := by omega
  cases s_gravity_within p0.1 (IntKind.i64.wrap (0 - p1)) p1 <;> cases s_gravity_within p0.2 (IntKind.i64.wrap (0 - p1)) p1 <;> simp [s_gravity_unless, v_first, h, h']
 ·have h' : ¬ p0.2 < p0.1 := by omega
  cases s_gravity_within p0.1 (IntKind.i64.wrap (0 - p1)) p1 <;> cases s_gravity_within p0.2 (IntKind.i64.wrap (0 - p1)) p1 <;> simp [s_gravity_unless, v_first, h, h']

abbrev con_ref05_rangeErr : Con := ⟨P_ref05_rangeErr, R_ref05_rangeErr, fun x => qre_ref05_rangeErr x.1 x.2, fun x => t_ref05_rangeErr x.1 x.2⟩
theorem ok_ref05_rangeErr : ConOk Tryd.prog 103 con_ref05_rangeErr := ⟨k_ref05_rangeErr, fun x hx => ret_tf (ps := P_ref05_rangeErr) (rs := R_ref05_rangeErr) (x := x) (y := t_ref05_rangeErr x.1 x.2) e_ref05_rangeErr hC_ref05_rangeErr (tf_of (w_ref05_rangeErr_eq x.1 x.2 (fun z => z = t_ref05_rangeErr x.1 x.2)) (d_ref05_rangeErr x.1 x.2 (fun z => z = t_ref05_rangeErr x.1 x.2) (pp_ref05_rangeErr x.1 x.2 hx) (tt_ref05_rangeErr x.1 x.2 hx)))⟩
/- ref05_CheckNet -/
def C_ref05_CheckNet : Cons := [(60, [], con_base_Within), (83, [], con_ref05_StationErr), (103, [], con_ref05_rangeErr)]
theorem hC_ref05_CheckNet : ConsOk Tryd.prog C_ref05_CheckNet := ConsOk.cons ok_base_Within <| ConsOk.cons ok_ref05_StationErr <| ConsOk.cons ok_ref05_rangeErr <| ConsOk.nil
abbrev q1_ref05_CheckNet (p0 : N5) (y1 : Int) := (List.getD p0.2 (Int.toNat y1) (zz0, (zz0, (zz0, zz0))))
abbrev q0_ref05_CheckNet (p0 : N5) (y1 : Int) := ((s_ref05_StationErr p0 (q1_ref05_CheckNet p0 y1).1) != zz0)
def w_ref05_CheckNet (p0 : N5) (K : (Int × Int) → Prop) : Prop :=
  ((((!(s_base_Within p0.1 zz1 (8 : Int))) = true) →
 (K (zz0, zz2))) ∧
 (((!(s_base_Within p0.1 zz1 (8 : Int))) = false) →
 ((((decide ((List.length p0.2 : Int) > (12 : Int))) = true) →
  (K (zz0, (8 : Int)))) ∧
  (((decide ((List.length p0.2 : Int) > (12 : Int))) = false) →
  (∃ n0, (loopP (fun (y1 : Int) k2 =>
    ((((decide (y1 < (List.length p0.2 : Int))) = true) →
    ((zz0 ≤ y1) ∧
     ((y1 < (List.length p0.2 : Int)) ∧
     ((((q0_ref05_CheckNet p0 y1) = false) →
     ((q0_ref05_CheckNet p0 y1) = (q0_ref05_CheckNet p0 y1))) ∧
     ((((q0_ref05_CheckNet p0 y1) = false) →
     ((q0_ref05_CheckNet p0 y1) = (q0_ref05_CheckNet p0 y1))) ∧
     ((((q0_ref05_CheckNet p0 y1) = false) →
     ((q0_ref05_CheckNet p0 y1) = (q0_ref05_CheckNet p0 y1))) ∧
     ((((q0_ref05_CheckNet p0 y1) = false) →
     ((q0_ref05_CheckNet p0 y1) = (q0_ref05_CheckNet p0 y1))) ∧
     (((q0_ref05_CheckNet p0 y1) = (q0_ref05_CheckNet p0 y1)) ∧
     ((((cond (q0_ref05_CheckNet p0 y1) true ((s_ref05_StationErr p0 (q1_ref05_CheckNet p0 y1).2.1) != zz0)) = true) →
     (K (y1, (6 : Int)))) ∧
     (((cond (q0_ref05_CheckNet p0 y1) true ((s_ref05_StationErr p0 (q1_ref05_CheckNet p0 y1).2.1) != zz0)) = false) →
     (((((q1_ref05_CheckNet p0 y1).1 == (q1_ref05_CheckNet p0 y1).2.1) = true) →
      (K (y1, (13 : Int)))) ∧
      ((((q1_ref05_CheckNet p0 y1).1 == (q1_ref05_CheckNet p0 y1).2.1) = false) →
      (((((s_gravity_rangeErr (q1_ref05_CheckNet p0 y1).2.2 (1000000 : Int)) != zz0) = true) →
       (K (y1, (s_gravity_rangeErr (q1_ref05_CheckNet p0 y1).2.2 (1000000 : Int))))) ∧
       ((((s_gravity_rangeErr (q1_ref05_CheckNet p0 y1).2.2 (1000000 : Int)) != zz0) = false) →
       (k2 (wi (y1 + zz1))))))))))))))))) ∧
    (((decide (y1 < (List.length p0.2 : Int))) = false) →
    (K (zz0, zz0))))) n0 zz0))))))
set_option maxHeartbeats 4000000 in
theorem w_ref05_CheckNet_eq (p0 : N5) (K : (Int × Int) → Prop) : tfn F_ref05_CheckNet A_ref05_CheckNet C_ref05_CheckNet P_ref05_CheckNet R_ref05_CheckNet p0 K = w_ref05_CheckNet p0 K := by kernel_rfl
def st_ref05_CheckNet_0 (p0 : N5) (y2 : Int) : Int ⊕ (Int × Int) :=
 (cond (decide (y2 < (List.length p0.2 : Int))) (cond (cond ((s_ref05_StationErr p0 (List.getD p0.2 (Int.toNat y2) (0, 0, 0, 0)).1) != (0 : Int)) true ((s_ref05_StationErr p0 (List.getD p0.2 (Int.toNat y2) (0, 0, 0, 0)).2.1) != (0 : Int))) (Sum.inr (y2, (6 : Int)))
  (cond ((List.getD p0.2 (Int.toNat y2) (0, 0, 0, 0)).1 == (List.getD p0.2 (Int.toNat y2) (0, 0, 0, 0)).2.1) (Sum.inr (y2, (13 : Int)))
  (cond ((s_gravity_rangeErr (List.getD p0.2 (Int.toNat y2) (0, 0, 0, 0)).2.2 (1000000 : Int)) != (0 : Int)) (Sum.inr (y2, (s_gravity_rangeErr (List.getD p0.2 (Int.toNat y2) (0, 0, 0, 0)).2.2 (1000000 : Int))))
  (Sum.inl (IntKind.i64.wrap (y2 + (1 : Int)))))))
  (Sum.inr ((0 : Int), (0 : Int))))
abbrev sp_ref05_CheckNet_0 (p0 : N5) (y2 : Int) : List Prop := [(((decide (y2 < (List.length p0.2 : Int))) = true) → ((0 : Int) ≤ y2)),
  (((decide (y2 < (List.length p0.2 : Int))) = true) → (y2 < (List.length p0.2 : Int)))]
def s_ref05_CheckNet (p0 : N5) : (Int × Int) :=
 (cond (!(s_base_Within p0.1 (1 : Int) (8 : Int))) ((0 : Int), (2 : Int))
  (cond (decide ((List.length p0.2 : Int) > (12 : Int))) ((0 : Int), (8 : Int))
  (lpv ((0 : Int), (0 : Int)) (st_ref05_CheckNet_0 p0) (0 : Int))))
abbrev pre_ref05_CheckNet (p0 : N5) : List Prop := [(((!(s_base_Within p0.1 (1 : Int) (8 : Int))) = false) → (((decide ((List.length p0.2 : Int) > (12 : Int))) = false) → (OkL (st_ref05_CheckNet_0 p0) (sp_ref05_CheckNet_0 p0) (0 : Int))))]
set_option maxHeartbeats 4000000 in
theorem d_ref05_CheckNet (p0 : N5) (K : (Int × Int) → Prop) (hp : ∀ p ∈ pre_ref05_CheckNet p0, p) (h : K (s_ref05_CheckNet p0)) : w_ref05_CheckNet p0 K := by
 unfold w_ref05_CheckNet
 unfold s_ref05_CheckNet at h
 obtain ⟨hp0, _⟩ := conj_of hp
 exact (br' h (fun e0 h => h)
  (fun e0 h => (br' h (fun e1 h => h)
  (fun e1 h => (loop_gen (hp0 e0 e1) h (fun y2 k2 hp h => by
 unfold st_ref05_CheckNet_0 at h; obtain ⟨hp0, hp1, _⟩ := conj_of hp
 exact (br' h (fun e3 h => ⟨(hp0 e3), (hp1 e3), rf, rf, rf, rf, rfl, (br' h (fun e4 h => h)
  (fun e4 h => (br' h (fun e5 h => h)
  (fun e5 h => (br' h (fun e6 h => h)
  (fun e6 h => h))))))⟩)
  (fun e3 h => h))))))))
theorem l_ref05_CheckNet_0 (p0 : Int × List (Int × Int × Int × Int)) (hl : lenOk p0.2) : OkL (st_ref05_CheckNet_0 p0) (sp_ref05_CheckNet_0 p0) 0 ∧ lpv ((0 : Int), (0 : Int)) (st_ref05_CheckNet_0 p0) 0 = v_scan (fun i t => cond (v_tierr p0.1 t != 0) (some (i, v_tierr p0.1 t)) none) ((0 : Int), (0 : Int)) 0 p0.2 := by
 refine scan_is p0.2 (0, 0, 0, 0) (fun i t => cond (v_tierr p0.1 t != 0) (some (i, v_tierr p0.1 t)) none) ((0 : Int), (0 : Int)) hl ?_ ?_
 ·refine ⟨by simp only [sp_ref05_CheckNet_0, List.forall_mem_cons, decide_eq_true_eq]; simp, by simp [st_ref05_CheckNet_0]⟩
 ·intro j hj
  have hj' : (j : Int) < p0.2.length := by omega
  refine ⟨by simp only [sp_ref05_CheckNet_0, List.forall_mem_cons, decide_eq_true_eq, Int.toNat_natCast]; simp <;> omega, ?_⟩
  simp only [st_ref05_CheckNet_0, hj', decide_true, Int.toNat_natCast, cond_true, wrap_nat (show (j : Int) ≤ 9223372036854775806 by unfold lenOk at hl; omega)]
  generalize p0.2.getD j (0, 0, 0, 0) = x
  simp only [s_ref05_StationErr, tx_eqw]
  show cond (cond (cond (!s_gravity_within x.1 0 (IntKind.i64.wrap (p0.1 - 1))) 6 0 != 0) true (cond (!s_gravity_within x.2.1 0 (IntKind.i64.wrap (p0.1 - 1))) 6 0 != 0)) (Sum.inr ((j : Int), (6 : Int))) (cond (x.1 == x.2.1) (Sum.inr ((j : Int), (13 : Int))) (cond (s_gravity_rangeErr x.2.2 1000000 != 0) (Sum.inr ((j : Int), s_gravity_rangeErr x.2.2 1000000)) (Sum.inl ((j + 1 : Nat) : Int)))) = _
  unfold v_tierr
  rw [show (x.1 != x.2.1) = !(x.1 == x.2.1) from rfl]
  cases s_gravity_within x.1 0 (IntKind.i64.wrap (p0.1 - 1)) <;> cases s_gravity_within x.2.1 0 (IntKind.i64.wrap (p0.1 - 1)) <;> cases (x.1 == x.2.1) <;> try rfl
  simp only [v_first, s_gravity_unless, Bool.not_false, Bool.not_true, cond_true, cond_false, show ((0 : Int) != 0) = false from rfl]
  cases he : (s_gravity_rangeErr x.2.2 1000000 != 0)
  ·rfl
  ·simp only [cond_true, he]
abbrev t_ref05_CheckNet (p0 : Int × List (Int × Int × Int × Int)) : Int × Int := v_net p0
abbrev qre_ref05_CheckNet (_ : Int × List (Int × Int × Int × Int)) : List Prop := []
theorem pp_ref05_CheckNet (p0 : Int × List (Int × Int × Int × Int)) (_ : ∀ p ∈ qre_ref05_CheckNet p0, p) : ∀ p ∈ pre_ref05_CheckNet p0, p := by
 simp only [pre_ref05_CheckNet, List.forall_mem_cons]
 exact ⟨fun _ h => (l_ref05_CheckNet_0 p0 (lenOk_le (n := 12) (by have := of_decide_eq_false h; omega) (by decide))).1, by simp⟩
theorem tt_ref05_CheckNet (p0 : Int × List (Int × Int × Int × Int)) (_ : ∀ p ∈ qre_ref05_CheckNet p0, p) : s_ref05_CheckNet p0 = t_ref05_CheckNet p0 := by
 unfold s_ref05_CheckNet t_ref05_CheckNet v_net v_neterr
 simp only [tx_eqw]
 cases h1 : s_gravity_within p0.1 1 8
 ·rfl
 ·rcases Int.lt_or_le 12 (p0.2.length : Int) with h | h
  ·have h' : ¬ (p0.2.length : Int) ≤ 12 := by omega
   simp [s_gravity_unless, v_first, h, h']
  ·have h' : ¬ (p0.2.length : Int) > 12 := by omega
   rw [(l_ref05_CheckNet_0 p0 (lenOk_le (n := 12) (by omega) (by decide))).2]
   simp [s_gravity_unless, v_first, h, h']

abbrev con_ref05_CheckNet : Con := ⟨P_ref05_CheckNet, R_ref05_CheckNet, fun x => qre_ref05_CheckNet x, fun x => t_ref05_CheckNet x⟩
theorem ok_ref05_CheckNet : ConOk Tryd.prog 45 con_ref05_CheckNet := ⟨k_ref05_CheckNet, fun x hx => ret_tf (ps := P_ref05_CheckNet) (rs := R_ref05_CheckNet) (x := x) (y := t_ref05_CheckNet x) e_ref05_CheckNet hC_ref05_CheckNet (tf_of (w_ref05_CheckNet_eq x (fun z => z = t_ref05_CheckNet x)) (d_ref05_CheckNet x (fun z => z = t_ref05_CheckNet x) (pp_ref05_CheckNet x hx) (tt_ref05_CheckNet x hx)))⟩
/- ref05_NetErr -/
def C_ref05_NetErr : Cons := [(45, [], con_ref05_CheckNet)]
theorem hC_ref05_NetErr : ConsOk Tryd.prog C_ref05_NetErr := ConsOk.cons ok_ref05_CheckNet <| ConsOk.nil
def w_ref05_NetErr (p0 : N5) (K : Int → Prop) : Prop :=
  (K (v_net p0).2)
set_option maxHeartbeats 4000000 in
theorem w_ref05_NetErr_eq (p0 : N5) (K : Int → Prop) : tfn F_ref05_NetErr A_ref05_NetErr C_ref05_NetErr P_ref05_NetErr R_ref05_NetErr p0 K = w_ref05_NetErr p0 K := by kernel_rfl
def s_ref05_NetErr (p0 : N5) : Int :=
 (v_net p0).2
abbrev pre_ref05_NetErr (p0 : N5) : List Prop := []
set_option maxHeartbeats 4000000 in
theorem d_ref05_NetErr (p0 : N5) (K : Int → Prop) (hp : ∀ p ∈ pre_ref05_NetErr p0, p) (h : K (s_ref05_NetErr p0)) : w_ref05_NetErr p0 K := by
 unfold w_ref05_NetErr
 unfold s_ref05_NetErr at h
 exact h
abbrev con_ref05_NetErr : Con := ⟨P_ref05_NetErr, R_ref05_NetErr, fun x => pre_ref05_NetErr x, fun x => s_ref05_NetErr x⟩
theorem ok_ref05_NetErr : ConOk Tryd.prog 81 con_ref05_NetErr := ⟨k_ref05_NetErr, fun x hx => ret_tf (ps := P_ref05_NetErr) (rs := R_ref05_NetErr) (x := x) (y := s_ref05_NetErr x) e_ref05_NetErr hC_ref05_NetErr (tf_of (w_ref05_NetErr_eq x (fun z => z = s_ref05_NetErr x)) (d_ref05_NetErr x (fun z => z = s_ref05_NetErr x) hx rfl))⟩
/- base_CopyInts -/
def C_base_CopyInts : Cons := []
theorem hC_base_CopyInts : ConsOk Tryd.prog C_base_CopyInts := ConsOk.nil
def w_base_CopyInts (p0 : (List Int)) (K : (List Int) → Prop) : Prop :=
  (((((List.length ([] : List Int)) + (List.length p0)) * 8) ≤ 140737488355328) ∧
 (K (([] : List Int) ++ p0)))
set_option maxHeartbeats 4000000 in
theorem w_base_CopyInts_eq (p0 : (List Int)) (K : (List Int) → Prop) : tfnO F_base_CopyInts A_base_CopyInts C_base_CopyInts P_base_CopyInts E_base_CopyInts p0 K = w_base_CopyInts p0 K := by kernel_rfl
def s_base_CopyInts (p0 : (List Int)) : (List Int) :=
 (([] : List Int) ++ p0)
abbrev pre_base_CopyInts (p0 : (List Int)) : List Prop := [((((List.length ([] : List Int)) + (List.length p0)) * 8) ≤ 140737488355328)]
set_option maxHeartbeats 4000000 in
theorem d_base_CopyInts (p0 : (List Int)) (K : (List Int) → Prop) (hp : ∀ p ∈ pre_base_CopyInts p0, p) (h : K (s_base_CopyInts p0)) : w_base_CopyInts p0 K := by
 unfold w_base_CopyInts
 unfold s_base_CopyInts at h
 obtain ⟨hp0, _⟩ := conj_of hp
 exact ⟨(hp0), h⟩
abbrev t_base_CopyInts (p0 : List Int) : List Int := p0
abbrev qre_base_CopyInts (p0 : List Int) : List Prop := [p0.length ≤ 1000000]
theorem pp_base_CopyInts (p0 : List Int) (hq : ∀ p ∈ qre_base_CopyInts p0, p) : ∀ p ∈ pre_base_CopyInts p0, p := by
 simp only [pre_base_CopyInts, List.forall_mem_cons]
 have := (conj_of hq).1
 exact ⟨by simp; omega, by simp⟩
theorem tt_base_CopyInts (p0 : List Int) (hq : ∀ p ∈ qre_base_CopyInts p0, p) : s_base_CopyInts p0 = t_base_CopyInts p0 := by
 rfl

abbrev con_base_CopyInts : Con := ⟨P_base_CopyInts, [.one (.sl E_base_CopyInts)], fun x => qre_base_CopyInts x, fun x => t_base_CopyInts x⟩
theorem ok_base_CopyInts : ConOOk Tryd.prog 31 con_base_CopyInts := conO_tf (e := E_base_CopyInts) (ps := P_base_CopyInts) k_base_CopyInts e_base_CopyInts hC_base_CopyInts (fun x hx => tfo_of (w_base_CopyInts_eq x (fun z => z = t_base_CopyInts x)) (d_base_CopyInts x (fun z => z = t_base_CopyInts x) (pp_base_CopyInts x hx) (tt_base_CopyInts x hx)))
/- ref05_lowered -/
def C_ref05_lowered : Cons := [(31, ownMark, con_base_CopyInts)]
theorem hC_ref05_lowered : ConsOk Tryd.prog C_ref05_lowered := ConsOk.consO ok_base_CopyInts <| ConsOk.nil
abbrev q0_ref05_lowered (p0 : N5) (p1 : (List Int)) (y4 : (Int × (Bool × (List Int)))) := (List.getD p0.2 (Int.toNat (List.getD p1 (Int.toNat y4.1) zz0)) (zz0, (zz0, (zz0, zz0))))
abbrev q1_ref05_lowered (p0 : N5) (p1 : (List Int)) (y4 : (Int × (Bool × (List Int)))) := ((List.getD y4.2.2 (Int.toNat (q0_ref05_lowered p0 p1 y4).1) zz0) + (q0_ref05_lowered p0 p1 y4).2.2.2)
def w_ref05_lowered (p0 : N5) (p1 : (List Int)) (p2 : (List Int)) (K : ((List Int) × Bool) → Prop) : Prop :=
  (((List.length p2) ≤ 1000000) ∧
 (∃ n0, (loopP (fun (y1 : (Int × (List Int))) k2 =>
  ((((decide (y1.1 ≤ p0.1)) = true) →
  (∃ n3, (loopP (fun (y4 : (Int × (Bool × (List Int)))) k5 =>
    ((((decide (y4.1 < (List.length p1 : Int))) = true) →
    ((zz0 ≤ y4.1) ∧
     ((y4.1 < (List.length p1 : Int)) ∧
     ((zz0 ≤ (List.getD p1 (Int.toNat y4.1) zz0)) ∧
     (((List.getD p1 (Int.toNat y4.1) zz0) < (List.length p0.2 : Int)) ∧
     ((zz0 ≤ (q0_ref05_lowered p0 p1 y4).2.1) ∧
     (((q0_ref05_lowered p0 p1 y4).2.1 < (List.length y4.2.2 : Int)) ∧
     ((zz0 ≤ (q0_ref05_lowered p0 p1 y4).1) ∧
     (((q0_ref05_lowered p0 p1 y4).1 < (List.length y4.2.2 : Int)) ∧
     ((((decide ((List.getD y4.2.2 (Int.toNat (q0_ref05_lowered p0 p1 y4).2.1) zz0) > (wi (q1_ref05_lowered p0 p1 y4)))) = true) →
     ((zz0 ≤ (q0_ref05_lowered p0 p1 y4).1) ∧
      (((q0_ref05_lowered p0 p1 y4).1 < (List.length y4.2.2 : Int)) ∧
      ((zz0 ≤ (q0_ref05_lowered p0 p1 y4).2.1) ∧
      (((q0_ref05_lowered p0 p1 y4).2.1 < (List.length y4.2.2 : Int)) ∧
      ((zz0 ≤ (q0_ref05_lowered p0 p1 y4).1) ∧
      (((q0_ref05_lowered p0 p1 y4).1 < (((List.length (List.set y4.2.2 (Int.toNat (q0_ref05_lowered p0 p1 y4).2.1) (wi (q1_ref05_lowered p0 p1 y4)))) : Nat) : Int)) ∧
      ((zz0 ≤ (q0_ref05_lowered p0 p1 y4).2.1) ∧
      (((q0_ref05_lowered p0 p1 y4).2.1 < (((List.length (List.set y4.2.2 (Int.toNat (q0_ref05_lowered p0 p1 y4).2.1) (wi (q1_ref05_lowered p0 p1 y4)))) : Nat) : Int)) ∧
      ((((decide ((List.getD (List.set y4.2.2 (Int.toNat (q0_ref05_lowered p0 p1 y4).2.1) (wi (q1_ref05_lowered p0 p1 y4))) (Int.toNat (q0_ref05_lowered p0 p1 y4).1) zz0) > (wi ((List.getD (List.set y4.2.2 (Int.toNat (q0_ref05_lowered p0 p1 y4).2.1) (wi (q1_ref05_lowered p0 p1 y4))) (Int.toNat (q0_ref05_lowered p0 p1 y4).2.1) zz0) - (q0_ref05_lowered p0 p1 y4).2.2.1)))) = true) →
      ((zz0 ≤ (q0_ref05_lowered p0 p1 y4).2.1) ∧
       (((q0_ref05_lowered p0 p1 y4).2.1 < (((List.length (List.set y4.2.2 (Int.toNat (q0_ref05_lowered p0 p1 y4).2.1) (wi (q1_ref05_lowered p0 p1 y4)))) : Nat) : Int)) ∧
       ((zz0 ≤ (q0_ref05_lowered p0 p1 y4).1) ∧
       (((q0_ref05_lowered p0 p1 y4).1 < (((List.length (List.set y4.2.2 (Int.toNat (q0_ref05_lowered p0 p1 y4).2.1) (wi (q1_ref05_lowered p0 p1 y4)))) : Nat) : Int)) ∧
       (k5 ((wi (y4.1 + zz1)), (true, (List.set (List.set y4.2.2 (Int.toNat (q0_ref05_lowered p0 p1 y4).2.1) (wi (q1_ref05_lowered p0 p1 y4))) (Int.toNat (q0_ref05_lowered p0 p1 y4).1) (wi ((List.getD (List.set y4.2.2 (Int.toNat (q0_ref05_lowered p0 p1 y4).2.1) (wi (q1_ref05_lowered p0 p1 y4))) (Int.toNat (q0_ref05_lowered p0 p1 y4).2.1) zz0) - (q0_ref05_lowered p0 p1 y4).2.2.1))))))))))) ∧
      (((decide ((List.getD (List.set y4.2.2 (Int.toNat (q0_ref05_lowered p0 p1 y4).2.1) (wi (q1_ref05_lowered p0 p1 y4))) (Int.toNat (q0_ref05_lowered p0 p1 y4).1) zz0) > (wi ((List.getD (List.set y4.2.2 (Int.toNat (q0_ref05_lowered p0 p1 y4).2.1) (wi (q1_ref05_lowered p0 p1 y4))) (Int.toNat (q0_ref05_lowered p0 p1 y4).2.1) zz0) - (q0_ref05_lowered p0 p1 y4).2.2.1)))) = false) →
      (k5 ((wi (y4.1 + zz1)), (true, (List.set y4.2.2 (Int.toNat (q0_ref05_lowered p0 p1 y4).2.1) (wi (q1_ref05_lowered p0 p1 y4))))))))))))))))) ∧
     (((decide ((List.getD y4.2.2 (Int.toNat (q0_ref05_lowered p0 p1 y4).2.1) zz0) > (wi (q1_ref05_lowered p0 p1 y4)))) = false) →
     ((zz0 ≤ (q0_ref05_lowered p0 p1 y4).1) ∧
      (((q0_ref05_lowered p0 p1 y4).1 < (List.length y4.2.2 : Int)) ∧
      ((zz0 ≤ (q0_ref05_lowered p0 p1 y4).2.1) ∧
      (((q0_ref05_lowered p0 p1 y4).2.1 < (List.length y4.2.2 : Int)) ∧
      ((((decide ((List.getD y4.2.2 (Int.toNat (q0_ref05_lowered p0 p1 y4).1) zz0) > (wi ((List.getD y4.2.2 (Int.toNat (q0_ref05_lowered p0 p1 y4).2.1) zz0) - (q0_ref05_lowered p0 p1 y4).2.2.1)))) = true) →
      ((zz0 ≤ (q0_ref05_lowered p0 p1 y4).2.1) ∧
       (((q0_ref05_lowered p0 p1 y4).2.1 < (List.length y4.2.2 : Int)) ∧
       ((zz0 ≤ (q0_ref05_lowered p0 p1 y4).1) ∧
       (((q0_ref05_lowered p0 p1 y4).1 < (List.length y4.2.2 : Int)) ∧
       (k5 ((wi (y4.1 + zz1)), (true, (List.set y4.2.2 (Int.toNat (q0_ref05_lowered p0 p1 y4).1) (wi ((List.getD y4.2.2 (Int.toNat (q0_ref05_lowered p0 p1 y4).2.1) zz0) - (q0_ref05_lowered p0 p1 y4).2.2.1))))))))))) ∧
      (((decide ((List.getD y4.2.2 (Int.toNat (q0_ref05_lowered p0 p1 y4).1) zz0) > (wi ((List.getD y4.2.2 (Int.toNat (q0_ref05_lowered p0 p1 y4).2.1) zz0) - (q0_ref05_lowered p0 p1 y4).2.2.1)))) = false) →
      (k5 ((wi (y4.1 + zz1)), y4.2))))))))))))))))))) ∧
    (((decide (y4.1 < (List.length p1 : Int))) = false) →
    ((((!y4.2.1) = true) →
     (K (y4.2.2, true))) ∧
     (((!y4.2.1) = false) →
     (k2 ((wi (y1.1 + zz1)), y4.2.2))))))) n3 (zz0, (false, y1.2))))) ∧
  (((decide (y1.1 ≤ p0.1)) = false) →
  (K (([] : List Int), false))))) n0 (zz0, p2))))
set_option maxHeartbeats 4000000 in
theorem w_ref05_lowered_eq (p0 : N5) (p1 : (List Int)) (p2 : (List Int)) (K : ((List Int) × Bool) → Prop) : tfn F_ref05_lowered A_ref05_lowered C_ref05_lowered P_ref05_lowered R_ref05_lowered (p0, p1, p2) K = w_ref05_lowered p0 p1 p2 K := by kernel_rfl
def st_ref05_lowered_0 (p0 : N5) (p1 : (List Int)) (p2 : (List Int)) (y0 : (Int × (List Int))) (y2 : (Int × (Bool × (List Int)))) : (Int × (Bool × (List Int))) ⊕ ((Int × (List Int)) ⊕ ((List Int) × Bool)) :=
 (cond (decide (y2.1 < (List.length p1 : Int))) (cond (decide ((List.getD y2.2.2 (Int.toNat (List.getD p0.2 (Int.toNat (List.getD p1 (Int.toNat y2.1) 0)) (0, 0, 0, 0)).2.1) (0 : Int)) > (IntKind.i64.wrap ((List.getD y2.2.2 (Int.toNat (List.getD p0.2 (Int.toNat (List.getD p1 (Int.toNat y2.1) 0)) (0, 0, 0, 0)).1) (0 : Int)) + (List.getD p0.2 (Int.toNat (List.getD p1 (Int.toNat y2.1) 0)) (0, 0, 0, 0)).2.2.2)))) (cond (decide ((List.getD (List.set y2.2.2 (Int.toNat (List.getD p0.2 (Int.toNat (List.getD p1 (Int.toNat y2.1) 0)) (0, 0, 0, 0)).2.1) (IntKind.i64.wrap ((List.getD y2.2.2 (Int.toNat (List.getD p0.2 (Int.toNat (List.getD p1 (Int.toNat y2.1) 0)) (0, 0, 0, 0)).1) (0 : Int)) + (List.getD p0.2 (Int.toNat (List.getD p1 (Int.toNat y2.1) 0)) (0, 0, 0, 0)).2.2.2))) (Int.toNat (List.getD p0.2 (Int.toNat (List.getD p1 (Int.toNat y2.1) 0)) (0, 0, 0, 0)).1) (0 : Int)) > (IntKind.i64.wrap ((List.getD (List.set y2.2.2 (Int.toNat (List.getD p0.2 (Int.toNat (List.getD p1 (Int.toNat y2.1) 0)) (0, 0, 0, 0)).2.1) (IntKind.i64.wrap ((List.getD y2.2.2 (Int.toNat (List.getD p0.2 (Int.toNat (List.getD p1 (Int.toNat y2.1) 0)) (0, 0, 0, 0)).1) (0 : Int)) + (List.getD p0.2 (Int.toNat (List.getD p1 (Int.toNat y2.1) 0)) (0, 0, 0, 0)).2.2.2))) (Int.toNat (List.getD p0.2 (Int.toNat (List.getD p1 (Int.toNat y2.1) 0)) (0, 0, 0, 0)).2.1) (0 : Int)) - (List.getD p0.2 (Int.toNat (List.getD p1 (Int.toNat y2.1) 0)) (0, 0, 0, 0)).2.2.1)))) (Sum.inl ((IntKind.i64.wrap (y2.1 + (1 : Int))), (true, (List.set (List.set y2.2.2 (Int.toNat (List.getD p0.2 (Int.toNat (List.getD p1 (Int.toNat y2.1) 0)) (0, 0, 0, 0)).2.1) (IntKind.i64.wrap ((List.getD y2.2.2 (Int.toNat (List.getD p0.2 (Int.toNat (List.getD p1 (Int.toNat y2.1) 0)) (0, 0, 0, 0)).1) (0 : Int)) + (List.getD p0.2 (Int.toNat (List.getD p1 (Int.toNat y2.1) 0)) (0, 0, 0, 0)).2.2.2))) (Int.toNat (List.getD p0.2 (Int.toNat (List.getD p1 (Int.toNat y2.1) 0)) (0, 0, 0, 0)).1) (IntKind.i64.wrap ((List.getD (List.set y2.2.2 (Int.toNat (List.getD p0.2 (Int.toNat (List.getD p1 (Int.toNat y2.1) 0)) (0, 0, 0, 0)).2.1) (IntKind.i64.wrap ((List.getD y2.2.2 (Int.toNat (List.getD p0.2 (Int.toNat (List.getD p1 (Int.toNat y2.1) 0)) (0, 0, 0, 0)).1) (0 : Int)) + (List.getD p0.2 (Int.toNat (List.getD p1 (Int.toNat y2.1) 0)) (0, 0, 0, 0)).2.2.2))) (Int.toNat (List.getD p0.2 (Int.toNat (List.getD p1 (Int.toNat y2.1) 0)) (0, 0, 0, 0)).2.1) (0 : Int)) - (List.getD p0.2 (Int.toNat (List.getD p1 (Int.toNat y2.1) 0)) (0, 0, 0, 0)).2.2.1))))))
  (Sum.inl ((IntKind.i64.wrap (y2.1 + (1 : Int))), (true, (List.set y2.2.2 (Int.toNat (List.getD p0.2 (Int.toNat (List.getD p1 (Int.toNat y2.1) 0)) (0, 0, 0, 0)).2.1) (IntKind.i64.wrap ((List.getD y2.2.2 (Int.toNat (List.getD p0.2 (Int.toNat (List.getD p1 (Int.toNat y2.1) 0)) (0, 0, 0, 0)).1) (0 : Int)) + (List.getD p0.2 (Int.toNat (List.getD p1 (Int.toNat y2.1) 0)) (0, 0, 0, 0)).2.2.2)))))))
  (cond (decide ((List.getD y2.2.2 (Int.toNat (List.getD p0.2 (Int.toNat (List.getD p1 (Int.toNat y2.1) 0)) (0, 0, 0, 0)).1) (0 : Int)) > (IntKind.i64.wrap ((List.getD y2.2.2 (Int.toNat (List.getD p0.2 (Int.toNat (List.getD p1 (Int.toNat y2.1) 0)) (0, 0, 0, 0)).2.1) (0 : Int)) - (List.getD p0.2 (Int.toNat (List.getD p1 (Int.toNat y2.1) 0)) (0, 0, 0, 0)).2.2.1)))) (Sum.inl ((IntKind.i64.wrap (y2.1 + (1 : Int))), (true, (List.set y2.2.2 (Int.toNat (List.getD p0.2 (Int.toNat (List.getD p1 (Int.toNat y2.1) 0)) (0, 0, 0, 0)).1) (IntKind.i64.wrap ((List.getD y2.2.2 (Int.toNat (List.getD p0.2 (Int.toNat (List.getD p1 (Int.toNat y2.1) 0)) (0, 0, 0, 0)).2.1) (0 : Int)) - (List.getD p0.2 (Int.toNat (List.getD p1 (Int.toNat y2.1) 0)) (0, 0, 0, 0)).2.2.1))))))
  (Sum.inl ((IntKind.i64.wrap (y2.1 + (1 : Int))), y2.2))))
  (cond (!y2.2.1) (Sum.inr (Sum.inr (y2.2.2, true)))
  (Sum.inr (Sum.inl ((IntKind.i64.wrap (y0.1 + (1 : Int))), y2.2.2)))))
abbrev qs0_ref05_lowered_0 (p0 : N5) (p1 : (List Int)) (y2 : (Int × (Bool × (List Int)))) : Bool := (decide ((List.getD (List.set y2.2.2 (Int.toNat (List.getD p0.2 (Int.toNat (List.getD p1 (Int.toNat y2.1) 0)) (0, 0, 0, 0)).2.1) (IntKind.i64.wrap ((List.getD y2.2.2 (Int.toNat (List.getD p0.2 (Int.toNat (List.getD p1 (Int.toNat y2.1) 0)) (0, 0, 0, 0)).1) (0 : Int)) + (List.getD p0.2 (Int.toNat (List.getD p1 (Int.toNat y2.1) 0)) (0, 0, 0, 0)).2.2.2))) (Int.toNat (List.getD p0.2 (Int.toNat (List.getD p1 (Int.toNat y2.1) 0)) (0, 0, 0, 0)).1) (0 : Int)) > (IntKind.i64.wrap ((List.getD (List.set y2.2.2 (Int.toNat (List.getD p0.2 (Int.toNat (List.getD p1 (Int.toNat y2.1) 0)) (0, 0, 0, 0)).2.1) (IntKind.i64.wrap ((List.getD y2.2.2 (Int.toNat (List.getD p0.2 (Int.toNat (List.getD p1 (Int.toNat y2.1) 0)) (0, 0, 0, 0)).1) (0 : Int)) + (List.getD p0.2 (Int.toNat (List.getD p1 (Int.toNat y2.1) 0)) (0, 0, 0, 0)).2.2.2))) (Int.toNat (List.getD p0.2 (Int.toNat (List.getD p1 (Int.toNat y2.1) 0)) (0, 0, 0, 0)).2.1) (0 : Int)) - (List.getD p0.2 (Int.toNat (List.getD p1 (Int.toNat y2.1) 0)) (0, 0, 0, 0)).2.2.1))))
abbrev qs1_ref05_lowered_0 (p0 : N5) (p1 : (List Int)) (y2 : (Int × (Bool × (List Int)))) : Bool := (decide ((List.getD y2.2.2 (Int.toNat (List.getD p0.2 (Int.toNat (List.getD p1 (Int.toNat y2.1) 0)) (0, 0, 0, 0)).2.1) (0 : Int)) > (IntKind.i64.wrap ((List.getD y2.2.2 (Int.toNat (List.getD p0.2 (Int.toNat (List.getD p1 (Int.toNat y2.1) 0)) (0, 0, 0, 0)).1) (0 : Int)) + (List.getD p0.2 (Int.toNat (List.getD p1 (Int.toNat y2.1) 0)) (0, 0, 0, 0)).2.2.2))))
abbrev qs2_ref05_lowered_0 (p0 : N5) (p1 : (List Int)) (y2 : (Int × (Bool × (List Int)))) : Bool := (decide ((List.getD y2.2.2 (Int.toNat (List.getD p0.2 (Int.toNat (List.getD p1 (Int.toNat y2.1) 0)) (0, 0, 0, 0)).1) (0 : Int)) > (IntKind.i64.wrap ((List.getD y2.2.2 (Int.toNat (List.getD p0.2 (Int.toNat (List.getD p1 (Int.toNat y2.1) 0)) (0, 0, 0, 0)).2.1) (0 : Int)) - (List.getD p0.2 (Int.toNat (List.getD p1 (Int.toNat y2.1) 0)) (0, 0, 0, 0)).2.2.1))))
abbrev sp_ref05_lowered_0 (p0 : N5) (p1 : (List Int)) (p2 : (List Int)) (y0 : (Int × (List Int))) (y2 : (Int × (Bool × (List Int)))) : List Prop := [(((decide (y2.1 < (List.length p1 : Int))) = true) → ((0 : Int) ≤ y2.1)),
  (((decide (y2.1 < (List.length p1 : Int))) = true) → (y2.1 < (List.length p1 : Int))),
  (((decide (y2.1 < (List.length p1 : Int))) = true) → ((0 : Int) ≤ (List.getD p1 (Int.toNat y2.1) 0))),
  (((decide (y2.1 < (List.length p1 : Int))) = true) → ((List.getD p1 (Int.toNat y2.1) 0) < (List.length p0.2 : Int))),
  (((decide (y2.1 < (List.length p1 : Int))) = true) → ((0 : Int) ≤ (List.getD p0.2 (Int.toNat (List.getD p1 (Int.toNat y2.1) 0)) (0, 0, 0, 0)).2.1)),
  (((decide (y2.1 < (List.length p1 : Int))) = true) → ((List.getD p0.2 (Int.toNat (List.getD p1 (Int.toNat y2.1) 0)) (0, 0, 0, 0)).2.1 < (List.length y2.2.2 : Int))),
  (((decide (y2.1 < (List.length p1 : Int))) = true) → ((0 : Int) ≤ (List.getD p0.2 (Int.toNat (List.getD p1 (Int.toNat y2.1) 0)) (0, 0, 0, 0)).1)),
  (((decide (y2.1 < (List.length p1 : Int))) = true) → ((List.getD p0.2 (Int.toNat (List.getD p1 (Int.toNat y2.1) 0)) (0, 0, 0, 0)).1 < (List.length y2.2.2 : Int))),
  (((decide (y2.1 < (List.length p1 : Int))) = true) → (((qs1_ref05_lowered_0 p0 p1 y2) = true) → ((0 : Int) ≤ (List.getD p0.2 (Int.toNat (List.getD p1 (Int.toNat y2.1) 0)) (0, 0, 0, 0)).1))),
  (((decide (y2.1 < (List.length p1 : Int))) = true) → (((qs1_ref05_lowered_0 p0 p1 y2) = true) → ((List.getD p0.2 (Int.toNat (List.getD p1 (Int.toNat y2.1) 0)) (0, 0, 0, 0)).1 < (List.length y2.2.2 : Int)))),
  (((decide (y2.1 < (List.length p1 : Int))) = true) → (((qs1_ref05_lowered_0 p0 p1 y2) = true) → ((0 : Int) ≤ (List.getD p0.2 (Int.toNat (List.getD p1 (Int.toNat y2.1) 0)) (0, 0, 0, 0)).2.1))),
  (((decide (y2.1 < (List.length p1 : Int))) = true) → (((qs1_ref05_lowered_0 p0 p1 y2) = true) → ((List.getD p0.2 (Int.toNat (List.getD p1 (Int.toNat y2.1) 0)) (0, 0, 0, 0)).2.1 < (List.length y2.2.2 : Int)))),
  (((decide (y2.1 < (List.length p1 : Int))) = true) → (((qs1_ref05_lowered_0 p0 p1 y2) = true) → ((List.getD p0.2 (Int.toNat (List.getD p1 (Int.toNat y2.1) 0)) (0, 0, 0, 0)).1 < (((List.length (List.set y2.2.2 (Int.toNat (List.getD p0.2 (Int.toNat (List.getD p1 (Int.toNat y2.1) 0)) (0, 0, 0, 0)).2.1) (IntKind.i64.wrap ((List.getD y2.2.2 (Int.toNat (List.getD p0.2 (Int.toNat (List.getD p1 (Int.toNat y2.1) 0)) (0, 0, 0, 0)).1) (0 : Int)) + (List.getD p0.2 (Int.toNat (List.getD p1 (Int.toNat y2.1) 0)) (0, 0, 0, 0)).2.2.2)))) : Nat) : Int)))),
  (((decide (y2.1 < (List.length p1 : Int))) = true) → (((qs1_ref05_lowered_0 p0 p1 y2) = true) → ((List.getD p0.2 (Int.toNat (List.getD p1 (Int.toNat y2.1) 0)) (0, 0, 0, 0)).2.1 < (((List.length (List.set y2.2.2 (Int.toNat (List.getD p0.2 (Int.toNat (List.getD p1 (Int.toNat y2.1) 0)) (0, 0, 0, 0)).2.1) (IntKind.i64.wrap ((List.getD y2.2.2 (Int.toNat (List.getD p0.2 (Int.toNat (List.getD p1 (Int.toNat y2.1) 0)) (0, 0, 0, 0)).1) (0 : Int)) + (List.getD p0.2 (Int.toNat (List.getD p1 (Int.toNat y2.1) 0)) (0, 0, 0, 0)).2.2.2)))) : Nat) : Int)))),
  (((decide (y2.1 < (List.length p1 : Int))) = true) → (((qs1_ref05_lowered_0 p0 p1 y2) = true) → (((qs0_ref05_lowered_0 p0 p1 y2) = true) → ((0 : Int) ≤ (List.getD p0.2 (Int.toNat (List.getD p1 (Int.toNat y2.1) 0)) (0, 0, 0, 0)).2.1)))),
  (((decide (y2.1 < (List.length p1 : Int))) = true) → (((qs1_ref05_lowered_0 p0 p1 y2) = true) → (((qs0_ref05_lowered_0 p0 p1 y2) = true) → ((List.getD p0.2 (Int.toNat (List.getD p1 (Int.toNat y2.1) 0)) (0, 0, 0, 0)).2.1 < (((List.length (List.set y2.2.2 (Int.toNat (List.getD p0.2 (Int.toNat (List.getD p1 (Int.toNat y2.1) 0)) (0, 0, 0, 0)).2.1) (IntKind.i64.wrap ((List.getD y2.2.2 (Int.toNat (List.getD p0.2 (Int.toNat (List.getD p1 (Int.toNat y2.1) 0)) (0, 0, 0, 0)).1) (0 : Int)) + (List.getD p0.2 (Int.toNat (List.getD p1 (Int.toNat y2.1) 0)) (0, 0, 0, 0)).2.2.2)))) : Nat) : Int))))),
  (((decide (y2.1 < (List.length p1 : Int))) = true) → (((qs1_ref05_lowered_0 p0 p1 y2) = true) → (((qs0_ref05_lowered_0 p0 p1 y2) = true) → ((0 : Int) ≤ (List.getD p0.2 (Int.toNat (List.getD p1 (Int.toNat y2.1) 0)) (0, 0, 0, 0)).1)))),
  (((decide (y2.1 < (List.length p1 : Int))) = true) → (((qs1_ref05_lowered_0 p0 p1 y2) = true) → (((qs0_ref05_lowered_0 p0 p1 y2) = true) → ((List.getD p0.2 (Int.toNat (List.getD p1 (Int.toNat y2.1) 0)) (0, 0, 0, 0)).1 < (((List.length (List.set y2.2.2 (Int.toNat (List.getD p0.2 (Int.toNat (List.getD p1 (Int.toNat y2.1) 0)) (0, 0, 0, 0)).2.1) (IntKind.i64.wrap ((List.getD y2.2.2 (Int.toNat (List.getD p0.2 (Int.toNat (List.getD p1 (Int.toNat y2.1) 0)) (0, 0, 0, 0)).1) (0 : Int)) + (List.getD p0.2 (Int.toNat (List.getD p1 (Int.toNat y2.1) 0)) (0, 0, 0, 0)).2.2.2)))) : Nat) : Int))))),
  (((decide (y2.1 < (List.length p1 : Int))) = true) → (((qs1_ref05_lowered_0 p0 p1 y2) = false) → ((0 : Int) ≤ (List.getD p0.2 (Int.toNat (List.getD p1 (Int.toNat y2.1) 0)) (0, 0, 0, 0)).1))),
  (((decide (y2.1 < (List.length p1 : Int))) = true) → (((qs1_ref05_lowered_0 p0 p1 y2) = false) → ((List.getD p0.2 (Int.toNat (List.getD p1 (Int.toNat y2.1) 0)) (0, 0, 0, 0)).1 < (List.length y2.2.2 : Int)))),
  (((decide (y2.1 < (List.length p1 : Int))) = true) → (((qs1_ref05_lowered_0 p0 p1 y2) = false) → ((0 : Int) ≤ (List.getD p0.2 (Int.toNat (List.getD p1 (Int.toNat y2.1) 0)) (0, 0, 0, 0)).2.1))),
  (((decide (y2.1 < (List.length p1 : Int))) = true) → (((qs1_ref05_lowered_0 p0 p1 y2) = false) → ((List.getD p0.2 (Int.toNat (List.getD p1 (Int.toNat y2.1) 0)) (0, 0, 0, 0)).2.1 < (List.length y2.2.2 : Int)))),
  (((decide (y2.1 < (List.length p1 : Int))) = true) → (((qs1_ref05_lowered_0 p0 p1 y2) = false) → (((qs2_ref05_lowered_0 p0 p1 y2) = true) → ((0 : Int) ≤ (List.getD p0.2 (Int.toNat (List.getD p1 (Int.toNat y2.1) 0)) (0, 0, 0, 0)).2.1)))),
  (((decide (y2.1 < (List.length p1 : Int))) = true) → (((qs1_ref05_lowered_0 p0 p1 y2) = false) → (((qs2_ref05_lowered_0 p0 p1 y2) = true) → ((List.getD p0.2 (Int.toNat (List.getD p1 (Int.toNat y2.1) 0)) (0, 0, 0, 0)).2.1 < (List.length y2.2.2 : Int))))),
  (((decide (y2.1 < (List.length p1 : Int))) = true) → (((qs1_ref05_lowered_0 p0 p1 y2) = false) → (((qs2_ref05_lowered_0 p0 p1 y2) = true) → ((0 : Int) ≤ (List.getD p0.2 (Int.toNat (List.getD p1 (Int.toNat y2.1) 0)) (0, 0, 0, 0)).1)))),
  (((decide (y2.1 < (List.length p1 : Int))) = true) → (((qs1_ref05_lowered_0 p0 p1 y2) = false) → (((qs2_ref05_lowered_0 p0 p1 y2) = true) → ((List.getD p0.2 (Int.toNat (List.getD p1 (Int.toNat y2.1) 0)) (0, 0, 0, 0)).1 < (List.length y2.2.2 : Int)))))]
def st_ref05_lowered_1 (p0 : N5) (p1 : (List Int)) (p2 : (List Int)) (y0 : (Int × (List Int))) : (Int × (List Int)) ⊕ ((List Int) × Bool) :=
 (cond (decide (y0.1 ≤ p0.1)) (lpv (Sum.inr ([], false)) (st_ref05_lowered_0 p0 p1 p2 y0) ((0 : Int), (false, y0.2)))
  (Sum.inr (([] : List Int), false)))
abbrev sp_ref05_lowered_1 (p0 : N5) (p1 : (List Int)) (p2 : (List Int)) (y0 : (Int × (List Int))) : List Prop := [(((decide (y0.1 ≤ p0.1)) = true) → (OkL (st_ref05_lowered_0 p0 p1 p2 y0) (sp_ref05_lowered_0 p0 p1 p2 y0) ((0 : Int), (false, y0.2))))]
def s_ref05_lowered (p0 : N5) (p1 : (List Int)) (p2 : (List Int)) : ((List Int) × Bool) :=
 (lpv ([], false) (st_ref05_lowered_1 p0 p1 p2) ((0 : Int), p2))
abbrev pre_ref05_lowered (p0 : N5) (p1 : (List Int)) (p2 : (List Int)) : List Prop := [((List.length p2) ≤ 1000000),
  (OkL (st_ref05_lowered_1 p0 p1 p2) (sp_ref05_lowered_1 p0 p1 p2) ((0 : Int), p2))]
set_option maxHeartbeats 4000000 in
theorem d_ref05_lowered (p0 : N5) (p1 : (List Int)) (p2 : (List Int)) (K : ((List Int) × Bool) → Prop) (hp : ∀ p ∈ pre_ref05_lowered p0 p1 p2, p) (h : K (s_ref05_lowered p0 p1 p2)) : w_ref05_lowered p0 p1 p2 K := by
 unfold w_ref05_lowered
 unfold s_ref05_lowered at h
 obtain ⟨hp0, hp1, _⟩ := conj_of hp
 exact ⟨(hp0), (loop_gen (hp1) h (fun y0 k0 hp h => by
 unfold st_ref05_lowered_1 at h; obtain ⟨hp0, _⟩ := conj_of hp
 exact (br' h (fun e1 h => (loop_gen (hp0 e1) h (fun y2 k2 hp h => by
 unfold st_ref05_lowered_0 at h; obtain ⟨hp0, hp1, hp2, hp3, hp4, hp5, hp6, hp7, hp8, hp9, hp10, hp11, hp12, hp13, hp14, hp15, hp16, hp17, hp18, hp19, hp20, hp21, hp22, hp23, hp24, hp25, _⟩ := conj_of hp
 exact (br' h (fun e3 h => ⟨(hp0 e3), (hp1 e3), (hp2 e3), (hp3 e3), (hp4 e3), (hp5 e3), (hp6 e3), (hp7 e3), (br' h (fun e4 h => ⟨(hp8 e3 e4), (hp9 e3 e4), (hp10 e3 e4), (hp11 e3 e4), (hp8 e3 e4), (hp12 e3 e4), (hp10 e3 e4), (hp13 e3 e4), (br' h (fun e5 h => ⟨(hp14 e3 e4 e5), (hp15 e3 e4 e5), (hp16 e3 e4 e5), (hp17 e3 e4 e5), h⟩)
  (fun e5 h => h))⟩)
  (fun e4 h => ⟨(hp18 e3 e4), (hp19 e3 e4), (hp20 e3 e4), (hp21 e3 e4), (br' h (fun e6 h => ⟨(hp22 e3 e4 e6), (hp23 e3 e4 e6), (hp24 e3 e4 e6), (hp25 e3 e4 e6), h⟩)
  (fun e6 h => h))⟩))⟩)
  (fun e3 h => (br' h (fun e7 h => h)
  (fun e7 h => h)))))))
  (fun e1 h => h))))⟩
theorem v_rx_all {n : Nat} {v : List Int} {ch : Bool} {b : Int × Int × Int} (hb : v_bok n b) : v_rx (v, List.replicate n true, ch) b = (cond (decide (v.getD b.2.1.toNat 0 + b.2.2 < v.getD b.1.toNat 0)) (v.set b.1.toNat (v.getD b.2.1.toNat 0 + b.2.2), List.replicate n true, true) (v, List.replicate n true, ch)) := by
 obtain ⟨b1, b2, _⟩ := hb
 unfold v_rx
 have e1 : (List.replicate n true).getD b.2.1.toNat false = true := by rw [List.getD_eq_getElem?_getD, List.getElem?_replicate, if_pos (by omega)]; rfl
 have e2 : (List.replicate n true).getD b.1.toNat false = true := by rw [List.getD_eq_getElem?_getD, List.getElem?_replicate, if_pos (by omega)]; rfl
 have e3 : (List.replicate n true).set b.1.toNat true = List.replicate n true := by
  refine List.ext_getElem? fun i => ?_
  rw [List.getElem?_set, List.getElem?_replicate, List.length_replicate]
  by_cases hi : b.1.toNat = i
  ·rw [if_pos hi, if_pos (by omega), if_pos (by omega)]
  ·rw [if_neg hi]
 simp only [e1, e2, e3, Bool.not_true, Bool.false_or, Bool.true_and]
/-- What a round of the reference ends with. -/
def v_fin (i : Int) (s : List Int × List Bool × Bool) : (Int × List Int) ⊕ (List Int × Bool) := cond (!s.2.2) (Sum.inr (s.1, true)) (Sum.inl (IntKind.i64.wrap (i + 1), s.1))
theorem l_ref05_lowered_0 (p0 : Int × List (Int × Int × Int × Int)) (p1 p2 : List Int) (y0 : Int × List Int) (h : v_setok p0.1 p0.2 p1) {t0 : Nat} (ht0 : t0 ≤ 400) (v : List Int) (hv : v_bd p0.1.toNat t0 v (List.replicate p0.1.toNat true)) :
  OkL (st_ref05_lowered_0 p0 p1 p2 y0) (sp_ref05_lowered_0 p0 p1 p2 y0) (0, false, v) ∧ lpv (Sum.inr ([], false)) (st_ref05_lowered_0 p0 p1 p2 y0) (0, false, v) = v_fin y0.1 (v_rds (v_bnd (v_pick p0.2 p1)) (v, List.replicate p0.1.toNat true)) := by
 have few := h.few
 refine list_is (fun i (t : Bool × List Int) => (i, t)) p1 0 (fun r t => r.length ≤ p1.length ∧ (∀ i ∈ r, 0 ≤ i ∧ i < (p0.2.length : Int)) ∧ v_bd p0.1.toNat (t0 + 2 * (p1.length - r.length)) t.2 (List.replicate p0.1.toNat true)) (fun r t => v_fin y0.1 ((v_bnd (v_pick p0.2 r)).foldl v_rx (t.2, List.replicate p0.1.toNat true, t.1))) (lenOk_le (n := 12) few (by decide)) ?_ ?_ (false, v) ⟨Nat.le_refl _, h.idx, by simpa using hv⟩
 ·intro t _
  have hd : decide ((p1.length : Int) < (p1.length : Nat)) = false := decide_eq_false (by omega)
  refine ⟨by simp only [sp_ref05_lowered_0, List.forall_mem_cons, hd]; simp, ?_⟩
  simp only [st_ref05_lowered_0, hd, cond_false, v_pick, List.map_nil, v_bnd, List.foldl_nil, v_fin]
  cases t.1 <;> rfl
 ·intro j t hj ⟨_, hi, hbd⟩
  have hd : decide ((j : Int) < (p1.length : Nat)) = true := decide_eq_true (by omega)
  have e1 : (p1.getD j 0 :: p1.drop (j + 1)).length = p1.length - j := by simp; omega
  have e2 : (p1.drop (j + 1)).length = p1.length - (j + 1) := by simp
  rw [e1] at hbd
  have hx := hi (p1.getD j 0) (by simp)
  have htie := h.nok.1.all _ (getD_mem' (0, 0, 0, 0) (show (p1.getD j 0).toNat < p0.2.length by omega))
  have e3 : v_pick p0.2 (p1.getD j 0 :: p1.drop (j + 1)) = p0.2.getD (p1.getD j 0).toNat (0, 0, 0, 0) :: v_pick p0.2 (p1.drop (j + 1)) := rfl
  rw [e2, e3]
  simp only [v_bnd, List.foldl_cons]
  generalize hT : p0.2.getD (p1.getD j 0).toNat (0, 0, 0, 0) = T at *
  obtain ⟨ch, v⟩ := t
  obtain ⟨t1, t2, _, t3, t4, _⟩ := htie
  have ok1 : v_bok p0.1.toNat (T.2.1, T.1, T.2.2.2) := ⟨t2, t1, t4⟩
  have ok2 : v_bok p0.1.toNat (T.1, T.2.1, 0 - T.2.2.1) := ⟨t1, t2, by simp only; omega⟩
  have b1 := v_rx_bd (s := (v, List.replicate p0.1.toNat true, ch)) hbd ok1
  have b2 := v_rx_bd b1 ok2
  have vl := hbd.vl
  rw [v_rx_all ok1] at b1 b2 ⊢
  simp only at b1 b2 vl ⊢
  have s1 := hbd.small T.1.toNat
  have s2 := hbd.small T.2.1.toNat
  simp only at s1 s2
  have w1 : IntKind.i64.wrap (v.getD T.1.toNat 0 + T.2.2.2) = v.getD T.1.toNat 0 + T.2.2.2 := wrap_id (by omega) (by omega)
  have w2 : ∀ u : List Int, (∀ i, -((t0 + 2 * (p1.length - (p1.length - j)) + 1 : Nat) * 1000000 : Int) ≤ u.getD i 0 ∧ u.getD i 0 ≤ (t0 + 2 * (p1.length - (p1.length - j)) + 1 : Nat) * 1000000) → IntKind.i64.wrap (u.getD T.2.1.toNat 0 - T.2.2.1) = u.getD T.2.1.toNat 0 - T.2.2.1 := fun u hu => by have := hu T.2.1.toNat; exact wrap_id (by omega) (by omega)
  have hgt : ∀ a b : Int, decide (a > b) = decide (b < a) := fun _ _ => rfl
  refine ⟨?_, .inl ?_⟩
  ·simp only [sp_ref05_lowered_0, List.forall_mem_cons, Int.toNat_natCast, hT, List.length_set]
   and_intros
   all_goals first | (intros; omega) | (intro p hp; cases hp)
  ·simp only [st_ref05_lowered_0, hd, cond_true, Int.toNat_natCast, hT, wrap_nat (show (j : Int) ≤ 9223372036854775806 by omega), w1, hgt]
   cases c1 : decide (v.getD T.1.toNat 0 + T.2.2.2 < v.getD T.2.1.toNat 0)
   ·rw [c1] at b1 b2
    simp only [cond_false] at b1 b2 ⊢
    rw [w2 v b1.small]
    rw [v_rx_all ok2] at b2 ⊢
    simp only [show v.getD T.2.1.toNat 0 + (0 - T.2.2.1) = v.getD T.2.1.toNat 0 - T.2.2.1 by omega] at b2 ⊢
    cases c2 : decide (v.getD T.2.1.toNat 0 - T.2.2.1 < v.getD T.1.toNat 0) <;> rw [c2] at b2
    ·exact ⟨_, rfl, ⟨by omega, fun i hi' => hi i (by simp [hi']), by rw [show t0 + 2 * (p1.length - (p1.length - (j + 1))) = t0 + 2 * (p1.length - (p1.length - j)) + 1 + 1 by omega]; exact b2⟩, rfl⟩
    ·exact ⟨_, rfl, ⟨by omega, fun i hi' => hi i (by simp [hi']), by rw [show t0 + 2 * (p1.length - (p1.length - (j + 1))) = t0 + 2 * (p1.length - (p1.length - j)) + 1 + 1 by omega]; exact b2⟩, rfl⟩
   ·rw [c1] at b1 b2
    simp only [cond_true] at b1 b2 ⊢
    generalize v.set T.2.1.toNat (v.getD T.1.toNat 0 + T.2.2.2) = u at *
    rw [w2 u b1.small]
    rw [v_rx_all ok2] at b2 ⊢
    simp only [show u.getD T.2.1.toNat 0 + (0 - T.2.2.1) = u.getD T.2.1.toNat 0 - T.2.2.1 by omega] at b2 ⊢
    cases c2 : decide (u.getD T.2.1.toNat 0 - T.2.2.1 < u.getD T.1.toNat 0) <;> rw [c2] at b2
    ·exact ⟨_, rfl, ⟨by omega, fun i hi' => hi i (by simp [hi']), by rw [show t0 + 2 * (p1.length - (p1.length - (j + 1))) = t0 + 2 * (p1.length - (p1.length - j)) + 1 + 1 by omega]; exact b2⟩, rfl⟩
    ·exact ⟨_, rfl, ⟨by omega, fun i hi' => hi i (by simp [hi']), by rw [show t0 + 2 * (p1.length - (p1.length - (j + 1))) = t0 + 2 * (p1.length - (p1.length - j)) + 1 + 1 by omega]; exact b2⟩, rfl⟩
/-- What values are told. -/
def v_told (r : List Int × Bool) : List Int × Bool := cond r.2 (r.1, true) ([], false)
theorem v_fold_all {n : Nat} : ∀ (bs : List (Int × Int × Int)) (v : List Int) (ch : Bool), (∀ b ∈ bs, v_bok n b) → (bs.foldl v_rx (v, List.replicate n true, ch)).2.1 = List.replicate n true
 | [], _, _, _ => rfl
 | b :: bs, v, ch, h => by
  rw [List.foldl_cons, v_rx_all (h b (by simp))]
  cases decide (v.getD b.2.1.toNat 0 + b.2.2 < v.getD b.1.toNat 0)
  ·exact v_fold_all bs _ _ (fun c hc => h c (by simp [hc]))
  ·exact v_fold_all bs _ _ (fun c hc => h c (by simp [hc]))
theorem l_ref05_lowered (p0 : Int × List (Int × Int × Int × Int)) (p1 p2 : List Int) (h : v_setok p0.1 p0.2 p1) (h2 : p2 = List.replicate p0.1.toNat 0) :
  OkL (st_ref05_lowered_1 p0 p1 p2) (sp_ref05_lowered_1 p0 p1 p2) (0, p2) ∧ lpv ([], false) (st_ref05_lowered_1 p0 p1 p2) (0, p2) = v_told (v_grt p0.1 (v_pick p0.2 p1)) := by
 have hp := h.pick
 have n8 := hp.1.n8
 have n0 := hp.2
 have hlen := hp.1.len
 have hbl := v_bnd_len (v_pick p0.2 p1)
 have hbk := v_bnd_ok hp.1.all
 have := for_is (dd := (([] : List Int), false)) (st := st_ref05_lowered_1 p0 p1 p2) (sp := sp_ref05_lowered_1 p0 p1 p2) (fun i (s : List Int) => (i, s)) 0 (p0.1.toNat + 1)
  (fun j s => v_bd p0.1.toNat (24 * j) s (List.replicate p0.1.toNat true)) (fun j s => cond (v_lowr (v_bnd (v_pick p0.2 p1)) (p0.1.toNat + 1 - j) (s, List.replicate p0.1.toNat true)).1 ((v_lowr (v_bnd (v_pick p0.2 p1)) (p0.1.toNat + 1 - j) (s, List.replicate p0.1.toNat true)).2.1, true) ([], false)) (by omega) (by omega) ?_ ?_ p2 ?_
 ·refine ⟨this.1, this.2.trans ?_⟩
  unfold v_told v_grt v_lowl
  subst h2
  rw [List.length_replicate]; rfl
 ·intro s _
  have hd : decide (((p0.1.toNat + 1 : Nat) : Int) ≤ p0.1) = false := decide_eq_false (by omega)
  refine ⟨by simp only [sp_ref05_lowered_1, List.forall_mem_cons, hd]; simp, ?_⟩
  simp only [st_ref05_lowered_1, hd, cond_false, Nat.sub_self, v_lowr]
 ·intro j s _ hj hs
  have hd : decide ((j : Int) ≤ p0.1) = true := decide_eq_true (by omega)
  obtain ⟨g1, g2⟩ := l_ref05_lowered_0 p0 p1 p2 ((j : Int), s) h (t0 := 24 * j) (by omega) s hs
  have hr := v_rds_bd (s := (s, List.replicate p0.1.toNat true)) hs hbk
  have ha := v_fold_all (v_bnd (v_pick p0.2 p1)) s false hbk
  refine ⟨by simp only [sp_ref05_lowered_1, List.forall_mem_cons]; exact ⟨fun _ => g1, by simp⟩, ?_⟩
  simp only [st_ref05_lowered_1, hd, cond_true]
  rw [g2, show p0.1.toNat + 1 - j = p0.1.toNat + 1 - (j + 1) + 1 by omega, v_lowr]
  have ha' : (v_rds (v_bnd (v_pick p0.2 p1)) (s, List.replicate p0.1.toNat true)).2.1 = List.replicate p0.1.toNat true := ha
  rw [ha'] at hr ⊢
  simp only [v_fin, wrap_nat (show (j : Int) ≤ 9223372036854775806 by omega)]
  cases hc : (v_rds (v_bnd (v_pick p0.2 p1)) (s, List.replicate p0.1.toNat true)).2.2
  ·exact .inr rfl
  ·refine .inl ⟨_, rfl, ?_, rfl⟩
   rw [show 24 * (j + 1) = 24 * j + 24 by omega]
   exact ⟨hr.vl, hr.kl, fun i => by have := hr.small i; omega⟩
 ·subst h2
  exact ⟨by simp, by simp, fun i => by simp [List.getD_eq_getElem?_getD, List.getElem?_replicate]; split <;> simp⟩
abbrev t_ref05_lowered (p0 : Int × List (Int × Int × Int × Int)) (p1 _ : List Int) : List Int × Bool := v_told (v_grt p0.1 (v_pick p0.2 p1))
abbrev qre_ref05_lowered (p0 : Int × List (Int × Int × Int × Int)) (p1 p2 : List Int) : List Prop := [v_setok p0.1 p0.2 p1, p2 = List.replicate p0.1.toNat 0]
theorem pp_ref05_lowered (p0 : Int × List (Int × Int × Int × Int)) (p1 p2 : List Int) (hq : ∀ p ∈ qre_ref05_lowered p0 p1 p2, p) : ∀ p ∈ pre_ref05_lowered p0 p1 p2, p := by
 obtain ⟨h1, h2, _⟩ := conj_of hq
 have n8 := h1.nok.1.n8
 simp only [pre_ref05_lowered, List.forall_mem_cons]
 exact ⟨by rw [h2, List.length_replicate]; omega, (l_ref05_lowered p0 p1 p2 h1 h2).1, by simp⟩
theorem tt_ref05_lowered (p0 : Int × List (Int × Int × Int × Int)) (p1 p2 : List Int) (hq : ∀ p ∈ qre_ref05_lowered p0 p1 p2, p) : s_ref05_lowered p0 p1 p2 = t_ref05_lowered p0 p1 p2 := by
 obtain ⟨h1, h2, _⟩ := conj_of hq
 exact (l_ref05_lowered p0 p1 p2 h1 h2).2

abbrev con_ref05_lowered : Con := ⟨P_ref05_lowered, R_ref05_lowered, fun x => qre_ref05_lowered x.1 x.2.1 x.2.2, fun x => t_ref05_lowered x.1 x.2.1 x.2.2⟩
theorem ok_ref05_lowered : ConOk Tryd.prog 109 con_ref05_lowered := ⟨k_ref05_lowered, fun x hx => ret_tf (ps := P_ref05_lowered) (rs := R_ref05_lowered) (x := x) (y := t_ref05_lowered x.1 x.2.1 x.2.2) e_ref05_lowered hC_ref05_lowered (tf_of (w_ref05_lowered_eq x.1 x.2.1 x.2.2 (fun z => z = t_ref05_lowered x.1 x.2.1 x.2.2)) (d_ref05_lowered x.1 x.2.1 x.2.2 (fun z => z = t_ref05_lowered x.1 x.2.1 x.2.2) (pp_ref05_lowered x.1 x.2.1 x.2.2 hx) (tt_ref05_lowered x.1 x.2.1 x.2.2 hx)))⟩
/- ref05_Agree -/
def C_ref05_Agree : Cons := [(109, [], con_ref05_lowered)]
theorem hC_ref05_Agree : ConsOk Tryd.prog C_ref05_Agree := ConsOk.cons ok_ref05_lowered <| ConsOk.nil
def w_ref05_Agree (p0 : N5) (p1 : (List Int)) (K : Bool → Prop) : Prop :=
  (((0 : Int) ≤ p0.1) ∧
 ((((8 : Int) * p0.1) ≤ (281474976710656 : Int)) ∧
 ((p0.1 ≤ (9223372036854775807 : Int)) ∧
 ((v_setok p0.1 p0.2 p1) ∧
 (((List.replicate (Int.toNat p0.1) (0 : Int)) = (List.replicate (Int.toNat p0.1) (0 : Int))) ∧
 (K (v_told (v_grt p0.1 (v_pick p0.2 p1))).2))))))
set_option maxHeartbeats 4000000 in
theorem w_ref05_Agree_eq (p0 : N5) (p1 : (List Int)) (K : Bool → Prop) : tfn F_ref05_Agree A_ref05_Agree C_ref05_Agree P_ref05_Agree R_ref05_Agree (p0, p1) K = w_ref05_Agree p0 p1 K := by kernel_rfl
def s_ref05_Agree (p0 : N5) (p1 : (List Int)) : Bool :=
 (v_told (v_grt p0.1 (v_pick p0.2 p1))).2
abbrev pre_ref05_Agree (p0 : N5) (p1 : (List Int)) : List Prop := [((0 : Int) ≤ p0.1),
  (((8 : Int) * p0.1) ≤ (281474976710656 : Int)),
  (p0.1 ≤ (9223372036854775807 : Int)),
  (v_setok p0.1 p0.2 p1)]
set_option maxHeartbeats 4000000 in
theorem d_ref05_Agree (p0 : N5) (p1 : (List Int)) (K : Bool → Prop) (hp : ∀ p ∈ pre_ref05_Agree p0 p1, p) (h : K (s_ref05_Agree p0 p1)) : w_ref05_Agree p0 p1 K := by
 unfold w_ref05_Agree
 unfold s_ref05_Agree at h
 obtain ⟨hp0, hp1, hp2, hp3, _⟩ := conj_of hp
 exact ⟨(hp0), (hp1), (hp2), (hp3), rfl, h⟩
theorem v_told2 (r : List Int × Bool) : (v_told r).2 = r.2 := by obtain ⟨a, b⟩ := r; cases b <;> rfl
def v_agr (n : Int) (l : List (Int × Int × Int × Int)) (set : List Int) : Bool := (v_grt n (v_pick l set)).2
abbrev t_ref05_Agree (p0 : Int × List (Int × Int × Int × Int)) (p1 : List Int) : Bool := v_agr p0.1 p0.2 p1
abbrev qre_ref05_Agree (p0 : Int × List (Int × Int × Int × Int)) (p1 : List Int) : List Prop := [v_setok p0.1 p0.2 p1]
theorem pp_ref05_Agree (p0 : Int × List (Int × Int × Int × Int)) (p1 : List Int) (hq : ∀ p ∈ qre_ref05_Agree p0 p1, p) : ∀ p ∈ pre_ref05_Agree p0 p1, p := by
 have h := (conj_of hq).1
 have h8 := h.nok.1.n8
 have h0 := h.nok.2
 simp only [pre_ref05_Agree, List.forall_mem_cons]
 exact ⟨by omega, by omega, by omega, h, by simp⟩
theorem tt_ref05_Agree (p0 : Int × List (Int × Int × Int × Int)) (p1 : List Int) (_ : ∀ p ∈ qre_ref05_Agree p0 p1, p) : s_ref05_Agree p0 p1 = t_ref05_Agree p0 p1 := by
 show (v_told _).2 = _
 rw [v_told2]; rfl

abbrev con_ref05_Agree : Con := ⟨P_ref05_Agree, R_ref05_Agree, fun x => qre_ref05_Agree x.1 x.2, fun x => t_ref05_Agree x.1 x.2⟩
theorem ok_ref05_Agree : ConOk Tryd.prog 127 con_ref05_Agree := ⟨k_ref05_Agree, fun x hx => ret_tf (ps := P_ref05_Agree) (rs := R_ref05_Agree) (x := x) (y := t_ref05_Agree x.1 x.2) e_ref05_Agree hC_ref05_Agree (tf_of (w_ref05_Agree_eq x.1 x.2 (fun z => z = t_ref05_Agree x.1 x.2)) (d_ref05_Agree x.1 x.2 (fun z => z = t_ref05_Agree x.1 x.2) (pp_ref05_Agree x.1 x.2 hx) (tt_ref05_Agree x.1 x.2 hx)))⟩
/- ref05_clashOf -/
/-- The next index. -/
def v_nxt (p1 : List Int) : Int := cond (decide ((p1.length : Int) > 0)) (p1.getD (p1.length - 1) 0 + 1) 0
def v_clo1 (p0 : Int × List (Int × Int × Int × Int)) (p1 : List Int) (p2 : Int) : List Int × Bool := v_clash p0.1 p0.2 p2.toNat p1 (v_nxt p1).toNat
def v_rok (p0 : Int × List (Int × Int × Int × Int)) (p1 : List Int) (p2 : Int) : Prop := Ret Tryd.prog 126 (valPs P_ref05_clashOf (p0, p1, p2)) (valR R_ref05_clashOf (v_clo1 p0 p1 p2))
abbrev rec_ref05_clashOf : Con := ⟨P_ref05_clashOf, R_ref05_clashOf, fun x => [v_rok x.1 x.2.1 x.2.2], fun x => v_clo1 x.1 x.2.1 x.2.2⟩
theorem okr_ref05_clashOf : ConOk Tryd.prog 126 rec_ref05_clashOf := ⟨k_ref05_clashOf, fun _ hx => (conj_of hx).1⟩
def C_ref05_clashOf : Cons := [(127, [], con_ref05_Agree), (31, ownMark, con_base_CopyInts), (126, [], rec_ref05_clashOf)]
theorem hC_ref05_clashOf : ConsOk Tryd.prog C_ref05_clashOf := ConsOk.cons ok_ref05_Agree <| ConsOk.consO ok_base_CopyInts <| ConsOk.cons okr_ref05_clashOf <| ConsOk.nil
def w_ref05_clashOf (p0 : N5) (p1 : (List Int)) (p2 : Int) (K : ((List Int) × Bool) → Prop) : Prop :=
  ((((p2 == (0 : Int)) = true) →
 ((v_setok p0.1 p0.2 p1) ∧
  (K (p1, (!(v_agr p0.1 p0.2 p1)))))) ∧
 (((p2 == (0 : Int)) = false) →
 ((((decide ((List.length p1 : Int) > (0 : Int))) = true) →
  (((0 : Int) ≤ (IntKind.i64.wrap ((List.length p1 : Int) - (1 : Int)))) ∧
   (((IntKind.i64.wrap ((List.length p1 : Int) - (1 : Int))) < (List.length p1 : Int)) ∧
   (∃ n0, (loopP (fun (y1 : Int) k2 =>
    ((((decide (y1 < (List.length p0.2 : Int))) = true) →
    (((List.length p1) ≤ 1000000) ∧
     (((((List.length p1) + (List.length (y1 :: ([] : List Int)))) * 8) ≤ 140737488355328) ∧
     ((v_rok p0 (p1 ++ (y1 :: ([] : List Int))) (IntKind.i64.wrap (p2 - (1 : Int)))) ∧
     ((((v_clo1 p0 (p1 ++ (y1 :: ([] : List Int))) (IntKind.i64.wrap (p2 - (1 : Int)))).2 = true) →
     (K ((v_clo1 p0 (p1 ++ (y1 :: ([] : List Int))) (IntKind.i64.wrap (p2 - (1 : Int)))).1, true))) ∧
     (((v_clo1 p0 (p1 ++ (y1 :: ([] : List Int))) (IntKind.i64.wrap (p2 - (1 : Int)))).2 = false) →
     (k2 (IntKind.i64.wrap (y1 + (1 : Int)))))))))) ∧
    (((decide (y1 < (List.length p0.2 : Int))) = false) →
    (K (([] : List Int), false))))) n0 (IntKind.i64.wrap ((List.getD p1 (Int.toNat (IntKind.i64.wrap ((List.length p1 : Int) - (1 : Int)))) (0 : Int)) + (1 : Int)))))))) ∧
  (((decide ((List.length p1 : Int) > (0 : Int))) = false) →
  (∃ n3, (loopP (fun (y4 : Int) k5 =>
    ((((decide (y4 < (List.length p0.2 : Int))) = true) →
    (((List.length p1) ≤ 1000000) ∧
     (((((List.length p1) + (List.length (y4 :: ([] : List Int)))) * 8) ≤ 140737488355328) ∧
     ((v_rok p0 (p1 ++ (y4 :: ([] : List Int))) (IntKind.i64.wrap (p2 - (1 : Int)))) ∧
     ((((v_clo1 p0 (p1 ++ (y4 :: ([] : List Int))) (IntKind.i64.wrap (p2 - (1 : Int)))).2 = true) →
     (K ((v_clo1 p0 (p1 ++ (y4 :: ([] : List Int))) (IntKind.i64.wrap (p2 - (1 : Int)))).1, true))) ∧
     (((v_clo1 p0 (p1 ++ (y4 :: ([] : List Int))) (IntKind.i64.wrap (p2 - (1 : Int)))).2 = false) →
     (k5 (IntKind.i64.wrap (y4 + (1 : Int)))))))))) ∧
    (((decide (y4 < (List.length p0.2 : Int))) = false) →
    (K (([] : List Int), false))))) n3 (0 : Int)))))))
set_option maxHeartbeats 4000000 in
theorem w_ref05_clashOf_eq (p0 : N5) (p1 : (List Int)) (p2 : Int) (K : ((List Int) × Bool) → Prop) : tfn F_ref05_clashOf A_ref05_clashOf C_ref05_clashOf P_ref05_clashOf R_ref05_clashOf (p0, p1, p2) K = w_ref05_clashOf p0 p1 p2 K := by kernel_rfl
def st_ref05_clashOf_0 (p0 : N5) (p1 : (List Int)) (p2 : Int) (y2 : Int) : Int ⊕ ((List Int) × Bool) :=
 (cond (decide (y2 < (List.length p0.2 : Int))) (cond (v_clo1 p0 (p1 ++ (y2 :: ([] : List Int))) (IntKind.i64.wrap (p2 - (1 : Int)))).2 (Sum.inr ((v_clo1 p0 (p1 ++ (y2 :: ([] : List Int))) (IntKind.i64.wrap (p2 - (1 : Int)))).1, true))
  (Sum.inl (IntKind.i64.wrap (y2 + (1 : Int)))))
  (Sum.inr (([] : List Int), false)))
abbrev sp_ref05_clashOf_0 (p0 : N5) (p1 : (List Int)) (p2 : Int) (y2 : Int) : List Prop := [(((decide (y2 < (List.length p0.2 : Int))) = true) → ((List.length p1) ≤ 1000000)),
  (((decide (y2 < (List.length p0.2 : Int))) = true) → ((((List.length p1) + (List.length (y2 :: ([] : List Int)))) * 8) ≤ 140737488355328)),
  (((decide (y2 < (List.length p0.2 : Int))) = true) → (v_rok p0 (p1 ++ (y2 :: ([] : List Int))) (IntKind.i64.wrap (p2 - (1 : Int)))))]
def st_ref05_clashOf_1 (p0 : N5) (p1 : (List Int)) (p2 : Int) (y5 : Int) : Int ⊕ ((List Int) × Bool) :=
 (cond (decide (y5 < (List.length p0.2 : Int))) (cond (v_clo1 p0 (p1 ++ (y5 :: ([] : List Int))) (IntKind.i64.wrap (p2 - (1 : Int)))).2 (Sum.inr ((v_clo1 p0 (p1 ++ (y5 :: ([] : List Int))) (IntKind.i64.wrap (p2 - (1 : Int)))).1, true))
  (Sum.inl (IntKind.i64.wrap (y5 + (1 : Int)))))
  (Sum.inr (([] : List Int), false)))
abbrev sp_ref05_clashOf_1 (p0 : N5) (p1 : (List Int)) (p2 : Int) (y5 : Int) : List Prop := [(((decide (y5 < (List.length p0.2 : Int))) = true) → ((List.length p1) ≤ 1000000)),
  (((decide (y5 < (List.length p0.2 : Int))) = true) → ((((List.length p1) + (List.length (y5 :: ([] : List Int)))) * 8) ≤ 140737488355328)),
  (((decide (y5 < (List.length p0.2 : Int))) = true) → (v_rok p0 (p1 ++ (y5 :: ([] : List Int))) (IntKind.i64.wrap (p2 - (1 : Int)))))]
def s_ref05_clashOf (p0 : N5) (p1 : (List Int)) (p2 : Int) : ((List Int) × Bool) :=
 (cond (p2 == (0 : Int)) (p1, (!(v_agr p0.1 p0.2 p1)))
  (cond (decide ((List.length p1 : Int) > (0 : Int))) (lpv ([], false) (st_ref05_clashOf_0 p0 p1 p2) (IntKind.i64.wrap ((List.getD p1 (Int.toNat (IntKind.i64.wrap ((List.length p1 : Int) - (1 : Int)))) (0 : Int)) + (1 : Int))))
  (lpv ([], false) (st_ref05_clashOf_1 p0 p1 p2) (0 : Int))))
abbrev pre_ref05_clashOf (p0 : N5) (p1 : (List Int)) (p2 : Int) : List Prop := [(((p2 == (0 : Int)) = true) → (v_setok p0.1 p0.2 p1)),
  (((p2 == (0 : Int)) = false) → (((decide ((List.length p1 : Int) > (0 : Int))) = true) → ((0 : Int) ≤ (IntKind.i64.wrap ((List.length p1 : Int) - (1 : Int)))))),
  (((p2 == (0 : Int)) = false) → (((decide ((List.length p1 : Int) > (0 : Int))) = true) → ((IntKind.i64.wrap ((List.length p1 : Int) - (1 : Int))) < (List.length p1 : Int)))),
  (((p2 == (0 : Int)) = false) → (((decide ((List.length p1 : Int) > (0 : Int))) = true) → (OkL (st_ref05_clashOf_0 p0 p1 p2) (sp_ref05_clashOf_0 p0 p1 p2) (IntKind.i64.wrap ((List.getD p1 (Int.toNat (IntKind.i64.wrap ((List.length p1 : Int) - (1 : Int)))) (0 : Int)) + (1 : Int)))))),
  (((p2 == (0 : Int)) = false) → (((decide ((List.length p1 : Int) > (0 : Int))) = false) → (OkL (st_ref05_clashOf_1 p0 p1 p2) (sp_ref05_clashOf_1 p0 p1 p2) (0 : Int))))]
set_option maxHeartbeats 4000000 in
theorem d_ref05_clashOf (p0 : N5) (p1 : (List Int)) (p2 : Int) (K : ((List Int) × Bool) → Prop) (hp : ∀ p ∈ pre_ref05_clashOf p0 p1 p2, p) (h : K (s_ref05_clashOf p0 p1 p2)) : w_ref05_clashOf p0 p1 p2 K := by
 unfold w_ref05_clashOf
 unfold s_ref05_clashOf at h
 obtain ⟨hp0, hp1, hp2, hp3, hp4, _⟩ := conj_of hp
 exact (br' h (fun e0 h => ⟨(hp0 e0), h⟩)
  (fun e0 h => (br' h (fun e1 h => ⟨(hp1 e0 e1), (hp2 e0 e1), (loop_gen (hp3 e0 e1) h (fun y2 k2 hp h => by
 unfold st_ref05_clashOf_0 at h; obtain ⟨hp0, hp1, hp2, _⟩ := conj_of hp
 exact (br' h (fun e3 h => ⟨(hp0 e3), (hp1 e3), (hp2 e3), (br' h (fun e4 h => h)
  (fun e4 h => h))⟩)
  (fun e3 h => h))))⟩)
  (fun e1 h => (loop_gen (hp4 e0 e1) h (fun y5 k5 hp h => by
 unfold st_ref05_clashOf_1 at h; obtain ⟨hp0, hp1, hp2, _⟩ := conj_of hp
 exact (br' h (fun e6 h => ⟨(hp0 e6), (hp1 e6), (hp2 e6), (br' h (fun e7 h => h)
  (fun e7 h => h))⟩)
  (fun e6 h => h))))))))
theorem v_nxt_snoc (p1 : List Int) (j : Int) : v_nxt (p1 ++ [j]) = j + 1 := by
 unfold v_nxt
 rw [decide_eq_true (by simp)]
 simp [List.getD_eq_getElem?_getD]
theorem v_nxt_ok {n : Int} {l : List (Int × Int × Int × Int)} {p1 : List Int} (h : v_setok n l p1) : 0 ≤ v_nxt p1 ∧ v_nxt p1 ≤ l.length := by
 unfold v_nxt
 by_cases hp : (p1.length : Int) > 0
 ·rw [decide_eq_true hp]
  have := h.idx _ (getD_mem' 0 (show p1.length - 1 < p1.length by omega))
  simp only [cond_true]
  omega
 ·rw [decide_eq_false hp]
  simp only [cond_false]
  omega
theorem l_rcs (p0 : Int × List (Int × Int × Int × Int)) (p1 : List Int) (k : Nat) (st : Int → Int ⊕ (List Int × Bool)) (sp : Int → List Prop) (a : Nat) (h : v_setok p0.1 p0.2 p1) (hk : p1.length + (k + 1) ≤ 12) (ha : a ≤ p0.2.length)
  (hst : ∀ y, st y = cond (decide (y < (p0.2.length : Int))) (cond (v_clo1 p0 (p1 ++ [y]) k).2 (Sum.inr ((v_clo1 p0 (p1 ++ [y]) k).1, true)) (Sum.inl (IntKind.i64.wrap (y + 1)))) (Sum.inr ([], false)))
  (hsp : ∀ y : Nat, y ≤ p0.2.length → ∀ p ∈ sp y, p) :
  OkL st sp a ∧ lpv ([], false) st a = v_fst (fun i => v_clash p0.1 p0.2 k (p1 ++ [(i : Int)]) (i + 1)) (List.range' a (p0.2.length - a)) := by
 have h12 := h.nok.1.len
 have := for_is (dd := (([] : List Int), false)) (st := st) (sp := sp) (fun i (_ : Unit) => i) a p0.2.length (fun _ _ => True) (fun j _ => v_fst (fun i => v_clash p0.1 p0.2 k (p1 ++ [(i : Int)]) (i + 1)) (List.range' j (p0.2.length - j))) ha (by omega) ?_ ?_ () trivial
 ·exact this
 ·intro _ _
  refine ⟨hsp _ (Nat.le_refl _), ?_⟩
  rw [hst, decide_eq_false (by omega), Nat.sub_self]; rfl
 ·intro j _ _ hj _
  have e : v_clo1 p0 (p1 ++ [(j : Int)]) k = v_clash p0.1 p0.2 k (p1 ++ [(j : Int)]) (j + 1) := by
   unfold v_clo1
   rw [v_nxt_snoc, Int.toNat_natCast, show ((j : Int) + 1).toNat = j + 1 by omega]
  refine ⟨hsp _ (by omega), ?_⟩
  rw [hst, decide_eq_true (show (j : Int) < (p0.2.length : Int) by omega), e, wrap_nat (show (j : Int) ≤ 9223372036854775806 by omega), show p0.2.length - j = p0.2.length - (j + 1) + 1 by omega, List.range'_succ]
  have hs : ∀ (f : Nat → List Int × Bool) (r : List Nat), v_fst f (j :: r) = cond (f j).2 ((f j).1, true) (v_fst f r) := fun _ _ => rfl
  rw [hs]
  cases (v_clash p0.1 p0.2 k (p1 ++ [(j : Int)]) (j + 1)).2
  ·exact .inl ⟨(), rfl, trivial, rfl⟩
  ·exact .inr rfl
theorem l_rc (p0 : Int × List (Int × Int × Int × Int)) (p1 : List Int) (k : Nat) (h : v_setok p0.1 p0.2 p1) (hk : p1.length + k ≤ 12) (hr : ∀ m i : Nat, k = m + 1 → i < p0.2.length → v_rok p0 (p1 ++ [(i : Int)]) m) : (∀ p ∈ pre_ref05_clashOf p0 p1 k, p) ∧ s_ref05_clashOf p0 p1 k = v_clo1 p0 p1 k := by
 match k, hk, hr with
 | 0, _, _ => exact ⟨by simp only [pre_ref05_clashOf, List.forall_mem_cons]; exact ⟨fun _ => h, fun h => (by cases h), fun h => (by cases h), fun h => (by cases h), fun h => (by cases h), by simp⟩, rfl⟩
 | m + 1, hk, hr =>
  obtain ⟨n0, n1⟩ := v_nxt_ok h
  have hz : (((m + 1 : Nat) : Int) == 0) = false := beq_eq_false_iff_ne.2 (by omega)
  have hw : IntKind.i64.wrap (((m + 1 : Nat) : Int) - 1) = m := by rw [wrap_id (by omega) (by omega)]; omega
  have hsp : ∀ sp : Int → List Prop, (∀ y, sp y = [(decide (y < (p0.2.length : Int)) = true) → p1.length ≤ 1000000, (decide (y < (p0.2.length : Int)) = true) → (p1.length + (y :: ([] : List Int)).length) * 8 ≤ 140737488355328, (decide (y < (p0.2.length : Int)) = true) → v_rok p0 (p1 ++ (y :: ([] : List Int))) (IntKind.i64.wrap (((m + 1 : Nat) : Int) - 1))]) → ∀ y : Nat, y ≤ p0.2.length → ∀ p ∈ sp y, p := by
   intro sp hs y _
   rw [hs]
   simp only [List.forall_mem_cons, hw]
   exact ⟨fun _ => by omega, fun _ => by simp; omega, fun hy => hr m y rfl (by have := of_decide_eq_true hy; omega), by simp⟩
  have e : v_clo1 p0 p1 ((m + 1 : Nat) : Int) = v_fst (fun i => v_clash p0.1 p0.2 m (p1 ++ [(i : Int)]) (i + 1)) (List.range' (v_nxt p1).toNat (p0.2.length - (v_nxt p1).toNat)) := by
   unfold v_clo1
   rw [Int.toNat_natCast]; rfl
  have g0 := l_rcs p0 p1 m (st_ref05_clashOf_0 p0 p1 ((m + 1 : Nat) : Int)) (sp_ref05_clashOf_0 p0 p1 ((m + 1 : Nat) : Int)) (v_nxt p1).toNat h hk (by omega) (fun y => by unfold st_ref05_clashOf_0; rw [hw]) (hsp _ fun y => rfl)
  have g1 := l_rcs p0 p1 m (st_ref05_clashOf_1 p0 p1 ((m + 1 : Nat) : Int)) (sp_ref05_clashOf_1 p0 p1 ((m + 1 : Nat) : Int)) (v_nxt p1).toNat h hk (by omega) (fun y => by unfold st_ref05_clashOf_1; rw [hw]) (hsp _ fun y => rfl)
  rw [← e, Int.toNat_of_nonneg n0] at g0 g1
  unfold s_ref05_clashOf
  simp only [pre_ref05_clashOf, List.forall_mem_cons, hz, cond_false]
  by_cases hp : (p1.length : Int) > 0
  ·have hwl : IntKind.i64.wrap ((p1.length : Int) - 1) = ((p1.length - 1 : Nat) : Int) := by rw [wrap_id (by omega) (by omega)]; omega
   have hx := h.idx _ (getD_mem' 0 (show p1.length - 1 < p1.length by omega))
   have h12 := h.nok.1.len
   have hnx : IntKind.i64.wrap (p1.getD (p1.length - 1) 0 + 1) = v_nxt p1 := by
    rw [wrap_id (by omega) (by omega)]
    unfold v_nxt
    rw [decide_eq_true hp]; rfl
   rw [hwl, Int.toNat_natCast, hnx, decide_eq_true hp]
   exact ⟨⟨fun h => (by cases h), fun _ _ => by omega, fun _ _ => by omega, fun _ _ => g0.1, fun _ h => (by cases h), by simp⟩, g0.2⟩
  ·have hnx : v_nxt p1 = 0 := by unfold v_nxt; rw [decide_eq_false hp]; rfl
   rw [hnx] at g1
   rw [decide_eq_false hp]
   exact ⟨⟨fun h => (by cases h), fun _ h => (by cases h), fun _ h => (by cases h), fun _ h => (by cases h), fun _ _ => g1.1, by simp⟩, g1.2⟩
theorem rr_ref05_clashOf (p0 : Int × List (Int × Int × Int × Int)) : ∀ (k : Nat) (p1 : List Int), v_setok p0.1 p0.2 p1 → p1.length + k ≤ 12 → v_rok p0 p1 k
 | k, p1, h, hk => by
  have := l_rc p0 p1 k h hk fun m i hm hi => by
   subst hm
   refine rr_ref05_clashOf p0 m (p1 ++ [(i : Int)]) ⟨h.nok, by simp; omega, fun j hj => ?_⟩ (by simp; omega)
   rcases List.mem_append.1 hj with hj | hj
   ·exact h.idx j hj
   ·simp at hj; subst hj; omega
  exact ret_tf (ps := P_ref05_clashOf) (rs := R_ref05_clashOf) (x := (p0, p1, (k : Int))) (y := v_clo1 p0 p1 k) e_ref05_clashOf hC_ref05_clashOf (tf_of (w_ref05_clashOf_eq p0 p1 k (fun z => z = v_clo1 p0 p1 k)) (d_ref05_clashOf p0 p1 k (fun z => z = v_clo1 p0 p1 k) this.1 this.2))
structure v_cok (p0 : Int × List (Int × Int × Int × Int)) (p1 : List Int) (p2 : Int) : Prop where
 ok : v_setok p0.1 p0.2 p1
 k : 0 ≤ p2
 few : p1.length + p2.toNat ≤ 12
theorem ra_ref05_clashOf {p0 : Int × List (Int × Int × Int × Int)} {p1 : List Int} {p2 : Int} (h : v_cok p0 p1 p2) : (∀ p ∈ pre_ref05_clashOf p0 p1 p2, p) ∧ s_ref05_clashOf p0 p1 p2 = v_clo1 p0 p1 p2 := by
 obtain ⟨h1, h2, h3⟩ := h
 obtain ⟨k, rfl⟩ := Int.eq_ofNat_of_zero_le h2
 refine l_rc p0 p1 k h1 (by omega) fun m i hm hi => ?_
 subst hm
 refine rr_ref05_clashOf p0 m (p1 ++ [(i : Int)]) ⟨h1.nok, by simp; omega, fun j hj => ?_⟩ (by simp; omega)
 rcases List.mem_append.1 hj with hj | hj
 ·exact h1.idx j hj
 ·simp at hj; subst hj; omega
abbrev t_ref05_clashOf (p0 : Int × List (Int × Int × Int × Int)) (p1 : List Int) (p2 : Int) : List Int × Bool := v_clo1 p0 p1 p2
abbrev qre_ref05_clashOf (p0 : Int × List (Int × Int × Int × Int)) (p1 : List Int) (p2 : Int) : List Prop := [v_cok p0 p1 p2]
theorem pp_ref05_clashOf (p0 : Int × List (Int × Int × Int × Int)) (p1 : List Int) (p2 : Int) (hq : ∀ p ∈ qre_ref05_clashOf p0 p1 p2, p) : ∀ p ∈ pre_ref05_clashOf p0 p1 p2, p := (ra_ref05_clashOf (conj_of hq).1).1
theorem tt_ref05_clashOf (p0 : Int × List (Int × Int × Int × Int)) (p1 : List Int) (p2 : Int) (hq : ∀ p ∈ qre_ref05_clashOf p0 p1 p2, p) : s_ref05_clashOf p0 p1 p2 = t_ref05_clashOf p0 p1 p2 := (ra_ref05_clashOf (conj_of hq).1).2

abbrev con_ref05_clashOf : Con := ⟨P_ref05_clashOf, R_ref05_clashOf, fun x => qre_ref05_clashOf x.1 x.2.1 x.2.2, fun x => t_ref05_clashOf x.1 x.2.1 x.2.2⟩
theorem ok_ref05_clashOf : ConOk Tryd.prog 126 con_ref05_clashOf := ⟨k_ref05_clashOf, fun x hx => ret_tf (ps := P_ref05_clashOf) (rs := R_ref05_clashOf) (x := x) (y := t_ref05_clashOf x.1 x.2.1 x.2.2) e_ref05_clashOf hC_ref05_clashOf (tf_of (w_ref05_clashOf_eq x.1 x.2.1 x.2.2 (fun z => z = t_ref05_clashOf x.1 x.2.1 x.2.2)) (d_ref05_clashOf x.1 x.2.1 x.2.2 (fun z => z = t_ref05_clashOf x.1 x.2.1 x.2.2) (pp_ref05_clashOf x.1 x.2.1 x.2.2 hx) (tt_ref05_clashOf x.1 x.2.1 x.2.2 hx)))⟩
/- ref05_Clash -/
def C_ref05_Clash : Cons := [(126, [], con_ref05_clashOf)]
theorem hC_ref05_Clash : ConsOk Tryd.prog C_ref05_Clash := ConsOk.cons ok_ref05_clashOf <| ConsOk.nil
def w_ref05_Clash (p0 : N5) (K : ((List Int) × Bool) → Prop) : Prop :=
  (∃ n0, (loopP (fun (y1 : Int) k2 =>
  ((((decide (y1 ≤ (List.length p0.2 : Int))) = true) →
  ((v_cok p0 ([] : List Int) y1) ∧
   ((((v_clo1 p0 ([] : List Int) y1).2 = true) →
   (K ((v_clo1 p0 ([] : List Int) y1).1, true))) ∧
   (((v_clo1 p0 ([] : List Int) y1).2 = false) →
   (k2 (IntKind.i64.wrap (y1 + (1 : Int)))))))) ∧
  (((decide (y1 ≤ (List.length p0.2 : Int))) = false) →
  (K (([] : List Int), false))))) n0 (1 : Int)))
set_option maxHeartbeats 4000000 in
theorem w_ref05_Clash_eq (p0 : N5) (K : ((List Int) × Bool) → Prop) : tfn F_ref05_Clash A_ref05_Clash C_ref05_Clash P_ref05_Clash R_ref05_Clash p0 K = w_ref05_Clash p0 K := by kernel_rfl
def st_ref05_Clash_0 (p0 : N5) (y0 : Int) : Int ⊕ ((List Int) × Bool) :=
 (cond (decide (y0 ≤ (List.length p0.2 : Int))) (cond (v_clo1 p0 ([] : List Int) y0).2 (Sum.inr ((v_clo1 p0 ([] : List Int) y0).1, true))
  (Sum.inl (IntKind.i64.wrap (y0 + (1 : Int)))))
  (Sum.inr (([] : List Int), false)))
abbrev sp_ref05_Clash_0 (p0 : N5) (y0 : Int) : List Prop := [(((decide (y0 ≤ (List.length p0.2 : Int))) = true) → (v_cok p0 ([] : List Int) y0))]
def s_ref05_Clash (p0 : N5) : ((List Int) × Bool) :=
 (lpv ([], false) (st_ref05_Clash_0 p0) (1 : Int))
abbrev pre_ref05_Clash (p0 : N5) : List Prop := [(OkL (st_ref05_Clash_0 p0) (sp_ref05_Clash_0 p0) (1 : Int))]
set_option maxHeartbeats 4000000 in
theorem d_ref05_Clash (p0 : N5) (K : ((List Int) × Bool) → Prop) (hp : ∀ p ∈ pre_ref05_Clash p0, p) (h : K (s_ref05_Clash p0)) : w_ref05_Clash p0 K := by
 unfold w_ref05_Clash
 unfold s_ref05_Clash at h
 obtain ⟨hp0, _⟩ := conj_of hp
 exact (loop_gen (hp0) h (fun y0 k0 hp h => by
 unfold st_ref05_Clash_0 at h; obtain ⟨hp0, _⟩ := conj_of hp
 exact (br' h (fun e1 h => ⟨(hp0 e1), (br' h (fun e2 h => h)
  (fun e2 h => h))⟩)
  (fun e1 h => h))))
def v_clash1 (p0 : Int × List (Int × Int × Int × Int)) : List Int × Bool := v_clsets p0 (List.range' 1 p0.2.length)
theorem l_ref05_Clash (p0 : Int × List (Int × Int × Int × Int)) (h : v_nokI p0.1 p0.2) : OkL (st_ref05_Clash_0 p0) (sp_ref05_Clash_0 p0) 1 ∧ lpv ([], false) (st_ref05_Clash_0 p0) 1 = v_clash1 p0 := by
 have h12 := h.1.len
 have := for_is (dd := (([] : List Int), false)) (st := st_ref05_Clash_0 p0) (sp := sp_ref05_Clash_0 p0) (fun i (_ : Unit) => i) 1 (p0.2.length + 1) (fun _ _ => True) (fun j _ => v_clsets p0 (List.range' j (p0.2.length + 1 - j))) (by omega) (by omega) ?_ ?_ () trivial
 ·exact this
 ·intro _ _
  have hd : decide (((p0.2.length + 1 : Nat) : Int) ≤ (p0.2.length : Int)) = false := decide_eq_false (by omega)
  refine ⟨by simp only [sp_ref05_Clash_0, List.forall_mem_cons, hd]; simp, ?_⟩
  simp only [st_ref05_Clash_0, hd, cond_false, Nat.sub_self]; rfl
 ·intro j _ _ hj _
  have hd : decide ((j : Int) ≤ (p0.2.length : Int)) = true := decide_eq_true (by omega)
  have e : v_clo1 p0 [] j = v_clash p0.1 p0.2 j [] 0 := by simp [v_clo1, v_nxt]
  have hs : v_clsets p0 (List.range' j (p0.2.length + 1 - j)) = cond (v_clash p0.1 p0.2 j [] 0).2 ((v_clash p0.1 p0.2 j [] 0).1, true) (v_clsets p0 (List.range' (j + 1) (p0.2.length + 1 - (j + 1)))) := by
   rw [show p0.2.length + 1 - j = p0.2.length + 1 - (j + 1) + 1 by omega, List.range'_succ]; rfl
  refine ⟨?_, ?_⟩
  ·simp only [sp_ref05_Clash_0, List.forall_mem_cons]
   exact ⟨fun _ => ⟨⟨h, by simp, by simp⟩, by omega, by simp; omega⟩, by simp⟩
  ·simp only [st_ref05_Clash_0, hd, cond_true, e, hs, wrap_nat (show (j : Int) ≤ 9223372036854775806 by omega)]
   cases hc : (v_clash p0.1 p0.2 j [] 0).2
   ·exact .inl ⟨(), rfl, trivial, rfl⟩
   ·exact .inr rfl
abbrev t_ref05_Clash (p0 : Int × List (Int × Int × Int × Int)) : List Int × Bool := v_clash1 p0
abbrev qre_ref05_Clash (p0 : Int × List (Int × Int × Int × Int)) : List Prop := [v_nokI p0.1 p0.2]
theorem pp_ref05_Clash (p0 : Int × List (Int × Int × Int × Int)) (hq : ∀ p ∈ qre_ref05_Clash p0, p) : ∀ p ∈ pre_ref05_Clash p0, p := by
 simp only [pre_ref05_Clash, List.forall_mem_cons]
 exact ⟨(l_ref05_Clash p0 (conj_of hq).1).1, by simp⟩
theorem tt_ref05_Clash (p0 : Int × List (Int × Int × Int × Int)) (hq : ∀ p ∈ qre_ref05_Clash p0, p) : s_ref05_Clash p0 = t_ref05_Clash p0 := (l_ref05_Clash p0 (conj_of hq).1).2

abbrev con_ref05_Clash : Con := ⟨P_ref05_Clash, R_ref05_Clash, fun x => qre_ref05_Clash x, fun x => t_ref05_Clash x⟩
theorem ok_ref05_Clash : ConOk Tryd.prog 82 con_ref05_Clash := ⟨k_ref05_Clash, fun x hx => ret_tf (ps := P_ref05_Clash) (rs := R_ref05_Clash) (x := x) (y := t_ref05_Clash x) e_ref05_Clash hC_ref05_Clash (tf_of (w_ref05_Clash_eq x (fun z => z = t_ref05_Clash x)) (d_ref05_Clash x (fun z => z = t_ref05_Clash x) (pp_ref05_Clash x hx) (tt_ref05_Clash x hx)))⟩
/- base_Ints -/
def C_base_Ints : Cons := []
theorem hC_base_Ints : ConsOk Tryd.prog C_base_Ints := ConsOk.nil
def w_base_Ints (p0 : (List Int)) (p1 : (List Int)) (K : Bool → Prop) : Prop :=
  (((((List.length p0 : Int) != (List.length p1 : Int)) = true) →
 (K false)) ∧
 ((((List.length p0 : Int) != (List.length p1 : Int)) = false) →
 (∃ n0, (loopP (fun (y1 : Int) k2 =>
   ((((decide (y1 < (List.length p0 : Int))) = true) →
   (((0 : Int) ≤ y1) ∧
    ((y1 < (List.length p0 : Int)) ∧
    (((0 : Int) ≤ y1) ∧
    ((y1 < (List.length p1 : Int)) ∧
    (((((List.getD p0 (Int.toNat y1) 0) != (List.getD p1 (Int.toNat y1) 0)) = true) →
    (K false)) ∧
    ((((List.getD p0 (Int.toNat y1) 0) != (List.getD p1 (Int.toNat y1) 0)) = false) →
    (k2 (IntKind.i64.wrap (y1 + (1 : Int))))))))))) ∧
   (((decide (y1 < (List.length p0 : Int))) = false) →
   (K true)))) n0 (0 : Int)))))
set_option maxHeartbeats 4000000 in
theorem w_base_Ints_eq (p0 : (List Int)) (p1 : (List Int)) (K : Bool → Prop) : tfn F_base_Ints A_base_Ints C_base_Ints P_base_Ints R_base_Ints (p0, p1) K = w_base_Ints p0 p1 K := by kernel_rfl
def st_base_Ints_0 (p0 : (List Int)) (p1 : (List Int)) (y1 : Int) : Int ⊕ Bool :=
 (cond (decide (y1 < (List.length p0 : Int))) (cond ((List.getD p0 (Int.toNat y1) 0) != (List.getD p1 (Int.toNat y1) 0)) (Sum.inr false)
  (Sum.inl (IntKind.i64.wrap (y1 + (1 : Int)))))
  (Sum.inr true))
abbrev sp_base_Ints_0 (p0 : (List Int)) (p1 : (List Int)) (y1 : Int) : List Prop := [(((decide (y1 < (List.length p0 : Int))) = true) → ((0 : Int) ≤ y1)),
  (((decide (y1 < (List.length p0 : Int))) = true) → (y1 < (List.length p0 : Int))),
  (((decide (y1 < (List.length p0 : Int))) = true) → (y1 < (List.length p1 : Int)))]
def s_base_Ints (p0 : (List Int)) (p1 : (List Int)) : Bool :=
 (cond ((List.length p0 : Int) != (List.length p1 : Int)) false
  (lpv false (st_base_Ints_0 p0 p1) (0 : Int)))
abbrev pre_base_Ints (p0 : (List Int)) (p1 : (List Int)) : List Prop := [((((List.length p0 : Int) != (List.length p1 : Int)) = false) → (OkL (st_base_Ints_0 p0 p1) (sp_base_Ints_0 p0 p1) (0 : Int)))]
set_option maxHeartbeats 4000000 in
theorem d_base_Ints (p0 : (List Int)) (p1 : (List Int)) (K : Bool → Prop) (hp : ∀ p ∈ pre_base_Ints p0 p1, p) (h : K (s_base_Ints p0 p1)) : w_base_Ints p0 p1 K := by
 unfold w_base_Ints
 unfold s_base_Ints at h
 obtain ⟨hp0, _⟩ := conj_of hp
 exact (br' h (fun e0 h => h)
  (fun e0 h => (loop_gen (hp0 e0) h (fun y1 k1 hp h => by
 unfold st_base_Ints_0 at h; obtain ⟨hp0, hp1, hp2, _⟩ := conj_of hp
 exact (br' h (fun e2 h => ⟨(hp0 e2), (hp1 e2), (hp0 e2), (hp2 e2), (br' h (fun e3 h => h)
  (fun e3 h => h))⟩)
  (fun e2 h => h))))))
theorem l_base_Ints_0 (p0 p1 : List Int) (hl : lenOk p0) (he : p0.length = p1.length) : OkL (st_base_Ints_0 p0 p1) (sp_base_Ints_0 p0 p1) 0 ∧ lpv false (st_base_Ints_0 p0 p1) 0 = v_scan (fun i x => cond (!((x == (p1.getD i.toNat 0)))) (some false) none) true 0 p0 := by
 refine scan_is p0 0 (fun i x => cond (!((x == (p1.getD i.toNat 0)))) (some false) none) true hl ?_ ?_
 ·refine ⟨by simp only [sp_base_Ints_0, List.forall_mem_cons, decide_eq_true_eq]; simp, by simp [st_base_Ints_0]⟩
 ·intro j hj
  have hj' : (j : Int) < p0.length := by omega
  refine ⟨by simp only [sp_base_Ints_0, List.forall_mem_cons, decide_eq_true_eq, Int.toNat_natCast]; simp <;> omega, ?_⟩
  simp only [st_base_Ints_0, hj', decide_true, Int.toNat_natCast, cond_true, wrap_nat (show (j : Int) ≤ 9223372036854775806 by unfold lenOk at hl; omega)]
  generalize p0.getD j 0 = x
  generalize p1.getD j 0 = z
  simp only [bne]
  cases (x == z) <;> rfl
abbrev t_base_Ints (p0 p1 : List Int) : Bool := decide (p0 = p1)
abbrev qre_base_Ints (p0 p1 : List Int) : List Prop := [lenOk p0]
theorem pp_base_Ints (p0 p1 : List Int) (hq : ∀ p ∈ qre_base_Ints p0 p1, p) : ∀ p ∈ pre_base_Ints p0 p1, p := by
 simp only [pre_base_Ints, List.forall_mem_cons]
 refine ⟨fun h => (l_base_Ints_0 p0 p1 (conj_of hq).1 ?_).1, by simp⟩
 have h' : (p0.length : Int) = p1.length := by simpa using h
 omega
theorem tt_base_Ints (p0 p1 : List Int) (hq : ∀ p ∈ qre_base_Ints p0 p1, p) : s_base_Ints p0 p1 = t_base_Ints p0 p1 := by
 unfold s_base_Ints t_base_Ints
 by_cases h : p0.length = p1.length
 ·rw [show ((p0.length : Int) != (p1.length : Int)) = false by simp [h]]
  refine (l_base_Ints_0 p0 p1 (conj_of hq).1 h).2.trans ?_
  exact v_scan_eq 0 (fun x y => (x == y)) (fun x y => by by_cases h : x = y <;> simp [h]) p0 p1 h
 ·rw [show ((p0.length : Int) != (p1.length : Int)) = true by simp; omega]
  have : p0 ≠ p1 := fun e => h (congrArg List.length e)
  simp [this]

abbrev con_base_Ints : Con := ⟨P_base_Ints, R_base_Ints, fun x => qre_base_Ints x.1 x.2, fun x => t_base_Ints x.1 x.2⟩
theorem ok_base_Ints : ConOk Tryd.prog 22 con_base_Ints := ⟨k_base_Ints, fun x hx => ret_tf (ps := P_base_Ints) (rs := R_base_Ints) (x := x) (y := t_base_Ints x.1 x.2) e_base_Ints hC_base_Ints (tf_of (w_base_Ints_eq x.1 x.2 (fun z => z = t_base_Ints x.1 x.2)) (d_base_Ints x.1 x.2 (fun z => z = t_base_Ints x.1 x.2) (pp_base_Ints x.1 x.2 hx) (tt_base_Ints x.1 x.2 hx)))⟩
/- ref05_every -/
def C_ref05_every : Cons := []
theorem hC_ref05_every : ConsOk Tryd.prog C_ref05_every := ConsOk.nil
def w_ref05_every (p0 : N5) (K : (List Int) → Prop) : Prop :=
  (∃ n0, (loopP (fun (y1 : (Int × (List Int))) k2 =>
  ((((decide (y1.1 < (List.length p0.2 : Int))) = true) →
  (((((List.length y1.2) + (List.length (y1.1 :: ([] : List Int)))) * 8) ≤ 140737488355328) ∧
   (k2 ((IntKind.i64.wrap (y1.1 + (1 : Int))), (y1.2 ++ (y1.1 :: ([] : List Int))))))) ∧
  (((decide (y1.1 < (List.length p0.2 : Int))) = false) →
  (K y1.2)))) n0 ((0 : Int), ([] : List Int))))
set_option maxHeartbeats 4000000 in
theorem w_ref05_every_eq (p0 : N5) (K : (List Int) → Prop) : tfn F_ref05_every A_ref05_every C_ref05_every P_ref05_every R_ref05_every p0 K = w_ref05_every p0 K := by kernel_rfl
def st_ref05_every_0 (p0 : N5) (y0 : (Int × (List Int))) : (Int × (List Int)) ⊕ (List Int) :=
 (cond (decide (y0.1 < (List.length p0.2 : Int))) (Sum.inl ((IntKind.i64.wrap (y0.1 + (1 : Int))), (y0.2 ++ (y0.1 :: ([] : List Int)))))
  (Sum.inr y0.2))
abbrev sp_ref05_every_0 (p0 : N5) (y0 : (Int × (List Int))) : List Prop := [(((decide (y0.1 < (List.length p0.2 : Int))) = true) → ((((List.length y0.2) + (List.length (y0.1 :: ([] : List Int)))) * 8) ≤ 140737488355328))]
def s_ref05_every (p0 : N5) : (List Int) :=
 (lpv [] (st_ref05_every_0 p0) ((0 : Int), ([] : List Int)))
abbrev pre_ref05_every (p0 : N5) : List Prop := [(OkL (st_ref05_every_0 p0) (sp_ref05_every_0 p0) ((0 : Int), ([] : List Int)))]
set_option maxHeartbeats 4000000 in
theorem d_ref05_every (p0 : N5) (K : (List Int) → Prop) (hp : ∀ p ∈ pre_ref05_every p0, p) (h : K (s_ref05_every p0)) : w_ref05_every p0 K := by
 unfold w_ref05_every
 unfold s_ref05_every at h
 obtain ⟨hp0, _⟩ := conj_of hp
 exact (loop_gen (hp0) h (fun y0 k0 hp h => by
 unfold st_ref05_every_0 at h; obtain ⟨hp0, _⟩ := conj_of hp
 exact (br' h (fun e1 h => ⟨(hp0 e1), h⟩)
  (fun e1 h => h))))
/-- The indexes of all ties. -/
def v_all (l : List (Int × Int × Int × Int)) : List Int := (List.range' 0 l.length).map fun (k : Nat) => (k : Int)
theorem v_pick_all (l : List (Int × Int × Int × Int)) : v_pick l (v_all l) = l := by
 refine List.ext_getElem? fun i => ?_
 unfold v_pick v_all
 rw [List.getElem?_map, List.getElem?_map]
 rcases Nat.lt_or_ge i l.length with h | h
 ·rw [List.getElem?_range' h]
  simp [List.getD_eq_getElem?_getD, h]
 ·rw [List.getElem?_eq_none (by simpa using h), List.getElem?_eq_none h]; rfl
theorem v_all_ok {n : Int} {l : List (Int × Int × Int × Int)} (h : v_nokI n l) : v_setok n l (v_all l) := by
 refine ⟨h, by simpa [v_all] using h.1.len, fun i hi => ?_⟩
 obtain ⟨k, hk, rfl⟩ := List.mem_map.1 hi
 rw [List.mem_range'_1] at hk
 omega
theorem l_ref05_every (p0 : Int × List (Int × Int × Int × Int)) (hl : p0.2.length ≤ 1000000) : OkL (st_ref05_every_0 p0) (sp_ref05_every_0 p0) (0, []) ∧ lpv [] (st_ref05_every_0 p0) (0, []) = v_all p0.2 := by
 refine forapp_is (fun i t => (i, t)) 0 p0.2.length (fun j => (j : Int)) id (Nat.zero_le _) hl ?_ ?_
 ·intro t _
  have hd : decide ((p0.2.length : Int) < (p0.2.length : Nat)) = false := decide_eq_false (by omega)
  exact ⟨by simp only [sp_ref05_every_0, List.forall_mem_cons, hd]; simp, by simp only [st_ref05_every_0, hd, cond_false, id]⟩
 ·intro j t _ hj ht
  have hd : decide ((j : Int) < (p0.2.length : Nat)) = true := decide_eq_true (by omega)
  exact ⟨by simp only [sp_ref05_every_0, List.forall_mem_cons, List.length_cons, List.length_nil]; exact ⟨fun _ => by omega, by simp⟩, by simp only [st_ref05_every_0, hd, cond_true, wrap_nat (show (j : Int) ≤ 9223372036854775806 by omega)]⟩
abbrev t_ref05_every (p0 : Int × List (Int × Int × Int × Int)) : List Int := v_all p0.2
abbrev qre_ref05_every (p0 : Int × List (Int × Int × Int × Int)) : List Prop := [p0.2.length ≤ 1000000]
theorem pp_ref05_every (p0 : Int × List (Int × Int × Int × Int)) (hq : ∀ p ∈ qre_ref05_every p0, p) : ∀ p ∈ pre_ref05_every p0, p := by
 simp only [pre_ref05_every, List.forall_mem_cons]
 exact ⟨(l_ref05_every p0 (conj_of hq).1).1, by simp⟩
theorem tt_ref05_every (p0 : Int × List (Int × Int × Int × Int)) (hq : ∀ p ∈ qre_ref05_every p0, p) : s_ref05_every p0 = t_ref05_every p0 := (l_ref05_every p0 (conj_of hq).1).2

abbrev con_ref05_every : Con := ⟨P_ref05_every, R_ref05_every, fun x => qre_ref05_every x, fun x => t_ref05_every x⟩
theorem ok_ref05_every : ConOk Tryd.prog 110 con_ref05_every := ⟨k_ref05_every, fun x hx => ret_tf (ps := P_ref05_every) (rs := R_ref05_every) (x := x) (y := t_ref05_every x) e_ref05_every hC_ref05_every (tf_of (w_ref05_every_eq x (fun z => z = t_ref05_every x)) (d_ref05_every x (fun z => z = t_ref05_every x) (pp_ref05_every x hx) (tt_ref05_every x hx)))⟩
/- ref05_most -/
def C_ref05_most : Cons := []
theorem hC_ref05_most : ConsOk Tryd.prog C_ref05_most := ConsOk.nil
abbrev q0_ref05_most (p0 : N5) (y7 : (Int × (List Int))) := (List.getD p0.2 (Int.toNat y7.1) (zz0, (zz0, (zz0, zz0))))
abbrev q1_ref05_most (p0 : N5) (y7 : (Int × (List Int))) := ((List.getD y7.2 (Int.toNat (q0_ref05_most p0 y7).1) zz0) + (q0_ref05_most p0 y7).2.2.2)
abbrev q2_ref05_most (p0 : N5) (y7 : (Int × (List Int))) := (List.getD y7.2 (Int.toNat (q0_ref05_most p0 y7).2.1) zz0)
def w_ref05_most (p0 : N5) (p1 : Int) (p2 : Int) (K : (Int × Bool) → Prop) : Prop :=
  ((zz0 ≤ p0.1) ∧
 ((((8 : Int) * p0.1) ≤ (281474976710656 : Int)) ∧
 ((p0.1 ≤ (9223372036854775807 : Int)) ∧
 (∃ n0, (loopP (fun (y1 : (Int × (List Int))) k2 =>
  ((((decide (y1.1 < (List.length y1.2 : Int))) = true) →
  ((zz0 ≤ y1.1) ∧
   ((y1.1 < (List.length y1.2 : Int)) ∧
   (k2 ((wi (y1.1 + zz1)), (List.set y1.2 (Int.toNat y1.1) (100000000 : Int))))))) ∧
  (((decide (y1.1 < (List.length y1.2 : Int))) = false) →
  ((zz0 ≤ p1) ∧
   ((p1 < (List.length y1.2 : Int)) ∧
   (∃ n3, (loopP (fun (y4 : (Int × (List Int))) k5 =>
    ((((decide (y4.1 < p0.1)) = true) →
    (∃ n6, (loopP (fun (y7 : (Int × (List Int))) k8 =>
      ((((decide (y7.1 < (List.length p0.2 : Int))) = true) →
      ((zz0 ≤ y7.1) ∧
       ((y7.1 < (List.length p0.2 : Int)) ∧
       ((zz0 ≤ (q0_ref05_most p0 y7).1) ∧
       (((q0_ref05_most p0 y7).1 < (List.length y7.2 : Int)) ∧
       ((((decide ((List.getD y7.2 (Int.toNat (q0_ref05_most p0 y7).1) zz0) < (50000000 : Int))) = true) →
       ((zz0 ≤ (q0_ref05_most p0 y7).2.1) ∧
        (((q0_ref05_most p0 y7).2.1 < (List.length y7.2 : Int)) ∧
        ((zz0 ≤ (q0_ref05_most p0 y7).1) ∧
        (((q0_ref05_most p0 y7).1 < (List.length y7.2 : Int)) ∧
        ((zz0 ≤ (q0_ref05_most p0 y7).2.1) ∧
        (((q0_ref05_most p0 y7).2.1 < (List.length y7.2 : Int)) ∧
        ((zz0 ≤ (q0_ref05_most p0 y7).2.1) ∧
        (((q0_ref05_most p0 y7).2.1 < (((List.length (List.set y7.2 (Int.toNat (q0_ref05_most p0 y7).2.1) (min (q2_ref05_most p0 y7) (wi (q1_ref05_most p0 y7))))) : Nat) : Int)) ∧
        ((((decide ((List.getD (List.set y7.2 (Int.toNat (q0_ref05_most p0 y7).2.1) (min (q2_ref05_most p0 y7) (wi (q1_ref05_most p0 y7)))) (Int.toNat (q0_ref05_most p0 y7).2.1) zz0) < (50000000 : Int))) = true) →
        ((zz0 ≤ (q0_ref05_most p0 y7).1) ∧
         (((q0_ref05_most p0 y7).1 < (((List.length (List.set y7.2 (Int.toNat (q0_ref05_most p0 y7).2.1) (min (q2_ref05_most p0 y7) (wi (q1_ref05_most p0 y7))))) : Nat) : Int)) ∧
         ((zz0 ≤ (q0_ref05_most p0 y7).2.1) ∧
         (((q0_ref05_most p0 y7).2.1 < (((List.length (List.set y7.2 (Int.toNat (q0_ref05_most p0 y7).2.1) (min (q2_ref05_most p0 y7) (wi (q1_ref05_most p0 y7))))) : Nat) : Int)) ∧
         ((zz0 ≤ (q0_ref05_most p0 y7).1) ∧
         (((q0_ref05_most p0 y7).1 < (((List.length (List.set y7.2 (Int.toNat (q0_ref05_most p0 y7).2.1) (min (q2_ref05_most p0 y7) (wi (q1_ref05_most p0 y7))))) : Nat) : Int)) ∧
         (k8 ((wi (y7.1 + zz1)), (List.set (List.set y7.2 (Int.toNat (q0_ref05_most p0 y7).2.1) (min (q2_ref05_most p0 y7) (wi (q1_ref05_most p0 y7)))) (Int.toNat (q0_ref05_most p0 y7).1) (min (List.getD (List.set y7.2 (Int.toNat (q0_ref05_most p0 y7).2.1) (min (q2_ref05_most p0 y7) (wi (q1_ref05_most p0 y7)))) (Int.toNat (q0_ref05_most p0 y7).1) zz0) (wi ((List.getD (List.set y7.2 (Int.toNat (q0_ref05_most p0 y7).2.1) (min (q2_ref05_most p0 y7) (wi (q1_ref05_most p0 y7)))) (Int.toNat (q0_ref05_most p0 y7).2.1) zz0) - (q0_ref05_most p0 y7).2.2.1))))))))))))) ∧
        (((decide ((List.getD (List.set y7.2 (Int.toNat (q0_ref05_most p0 y7).2.1) (min (q2_ref05_most p0 y7) (wi (q1_ref05_most p0 y7)))) (Int.toNat (q0_ref05_most p0 y7).2.1) zz0) < (50000000 : Int))) = false) →
        (k8 ((wi (y7.1 + zz1)), (List.set y7.2 (Int.toNat (q0_ref05_most p0 y7).2.1) (min (q2_ref05_most p0 y7) (wi (q1_ref05_most p0 y7))))))))))))))))) ∧
       (((decide ((List.getD y7.2 (Int.toNat (q0_ref05_most p0 y7).1) zz0) < (50000000 : Int))) = false) →
       ((zz0 ≤ (q0_ref05_most p0 y7).2.1) ∧
        (((q0_ref05_most p0 y7).2.1 < (List.length y7.2 : Int)) ∧
        ((((decide ((q2_ref05_most p0 y7) < (50000000 : Int))) = true) →
        ((zz0 ≤ (q0_ref05_most p0 y7).1) ∧
         (((q0_ref05_most p0 y7).1 < (List.length y7.2 : Int)) ∧
         ((zz0 ≤ (q0_ref05_most p0 y7).2.1) ∧
         (((q0_ref05_most p0 y7).2.1 < (List.length y7.2 : Int)) ∧
         ((zz0 ≤ (q0_ref05_most p0 y7).1) ∧
         (((q0_ref05_most p0 y7).1 < (List.length y7.2 : Int)) ∧
         (k8 ((wi (y7.1 + zz1)), (List.set y7.2 (Int.toNat (q0_ref05_most p0 y7).1) (min (List.getD y7.2 (Int.toNat (q0_ref05_most p0 y7).1) zz0) (wi ((q2_ref05_most p0 y7) - (q0_ref05_most p0 y7).2.2.1))))))))))))) ∧
        (((decide ((q2_ref05_most p0 y7) < (50000000 : Int))) = false) →
        (k8 ((wi (y7.1 + zz1)), y7.2))))))))))))) ∧
      (((decide (y7.1 < (List.length p0.2 : Int))) = false) →
      (k5 ((wi (y4.1 + zz1)), y7.2))))) n6 (zz0, y4.2)))) ∧
    (((decide (y4.1 < p0.1)) = false) →
    ((zz0 ≤ p2) ∧
     ((p2 < (List.length y4.2 : Int)) ∧
     ((zz0 ≤ p2) ∧
     ((p2 < (List.length y4.2 : Int)) ∧
     (K ((List.getD y4.2 (Int.toNat p2) zz0), (decide ((List.getD y4.2 (Int.toNat p2) zz0) < (50000000 : Int)))))))))))) n3 (zz0, (List.set y1.2 (Int.toNat p1) zz0))))))))) n0 (zz0, (List.replicate (Int.toNat p0.1) zz0)))))))
set_option maxHeartbeats 4000000 in
theorem w_ref05_most_eq (p0 : N5) (p1 : Int) (p2 : Int) (K : (Int × Bool) → Prop) : tfn F_ref05_most A_ref05_most C_ref05_most P_ref05_most R_ref05_most (p0, p1, p2) K = w_ref05_most p0 p1 p2 K := by kernel_rfl
def st_ref05_most_0 (p0 : N5) (p1 : Int) (p2 : Int) (y0 : (Int × (List Int))) (y2 : (Int × (List Int))) (y4 : (Int × (List Int))) : (Int × (List Int)) ⊕ ((Int × (List Int)) ⊕ ((Int × (List Int)) ⊕ (Int × Bool))) :=
 (cond (decide (y4.1 < (List.length p0.2 : Int))) (cond (decide ((List.getD y4.2 (Int.toNat (List.getD p0.2 (Int.toNat y4.1) (0, 0, 0, 0)).1) (0 : Int)) < (50000000 : Int))) (cond (decide ((List.getD (List.set y4.2 (Int.toNat (List.getD p0.2 (Int.toNat y4.1) (0, 0, 0, 0)).2.1) (min (List.getD y4.2 (Int.toNat (List.getD p0.2 (Int.toNat y4.1) (0, 0, 0, 0)).2.1) (0 : Int)) (IntKind.i64.wrap ((List.getD y4.2 (Int.toNat (List.getD p0.2 (Int.toNat y4.1) (0, 0, 0, 0)).1) (0 : Int)) + (List.getD p0.2 (Int.toNat y4.1) (0, 0, 0, 0)).2.2.2)))) (Int.toNat (List.getD p0.2 (Int.toNat y4.1) (0, 0, 0, 0)).2.1) (0 : Int)) < (50000000 : Int))) (Sum.inl ((IntKind.i64.wrap (y4.1 + (1 : Int))), (List.set (List.set y4.2 (Int.toNat (List.getD p0.2 (Int.toNat y4.1) (0, 0, 0, 0)).2.1) (min (List.getD y4.2 (Int.toNat (List.getD p0.2 (Int.toNat y4.1) (0, 0, 0, 0)).2.1) (0 : Int)) (IntKind.i64.wrap ((List.getD y4.2 (Int.toNat (List.getD p0.2 (Int.toNat y4.1) (0, 0, 0, 0)).1) (0 : Int)) + (List.getD p0.2 (Int.toNat y4.1) (0, 0, 0, 0)).2.2.2)))) (Int.toNat (List.getD p0.2 (Int.toNat y4.1) (0, 0, 0, 0)).1) (min (List.getD (List.set y4.2 (Int.toNat (List.getD p0.2 (Int.toNat y4.1) (0, 0, 0, 0)).2.1) (min (List.getD y4.2 (Int.toNat (List.getD p0.2 (Int.toNat y4.1) (0, 0, 0, 0)).2.1) (0 : Int)) (IntKind.i64.wrap ((List.getD y4.2 (Int.toNat (List.getD p0.2 (Int.toNat y4.1) (0, 0, 0, 0)).1) (0 : Int)) + (List.getD p0.2 (Int.toNat y4.1) (0, 0, 0, 0)).2.2.2)))) (Int.toNat (List.getD p0.2 (Int.toNat y4.1) (0, 0, 0, 0)).1) (0 : Int)) (IntKind.i64.wrap ((List.getD (List.set y4.2 (Int.toNat (List.getD p0.2 (Int.toNat y4.1) (0, 0, 0, 0)).2.1) (min (List.getD y4.2 (Int.toNat (List.getD p0.2 (Int.toNat y4.1) (0, 0, 0, 0)).2.1) (0 : Int)) (IntKind.i64.wrap ((List.getD y4.2 (Int.toNat (List.getD p0.2 (Int.toNat y4.1) (0, 0, 0, 0)).1) (0 : Int)) + (List.getD p0.2 (Int.toNat y4.1) (0, 0, 0, 0)).2.2.2)))) (Int.toNat (List.getD p0.2 (Int.toNat y4.1) (0, 0, 0, 0)).2.1) (0 : Int)) - (List.getD p0.2 (Int.toNat y4.1) (0, 0, 0, 0)).2.2.1))))))
  (Sum.inl ((IntKind.i64.wrap (y4.1 + (1 : Int))), (List.set y4.2 (Int.toNat (List.getD p0.2 (Int.toNat y4.1) (0, 0, 0, 0)).2.1) (min (List.getD y4.2 (Int.toNat (List.getD p0.2 (Int.toNat y4.1) (0, 0, 0, 0)).2.1) (0 : Int)) (IntKind.i64.wrap ((List.getD y4.2 (Int.toNat (List.getD p0.2 (Int.toNat y4.1) (0, 0, 0, 0)).1) (0 : Int)) + (List.getD p0.2 (Int.toNat y4.1) (0, 0, 0, 0)).2.2.2)))))))
  (cond (decide ((List.getD y4.2 (Int.toNat (List.getD p0.2 (Int.toNat y4.1) (0, 0, 0, 0)).2.1) (0 : Int)) < (50000000 : Int))) (Sum.inl ((IntKind.i64.wrap (y4.1 + (1 : Int))), (List.set y4.2 (Int.toNat (List.getD p0.2 (Int.toNat y4.1) (0, 0, 0, 0)).1) (min (List.getD y4.2 (Int.toNat (List.getD p0.2 (Int.toNat y4.1) (0, 0, 0, 0)).1) (0 : Int)) (IntKind.i64.wrap ((List.getD y4.2 (Int.toNat (List.getD p0.2 (Int.toNat y4.1) (0, 0, 0, 0)).2.1) (0 : Int)) - (List.getD p0.2 (Int.toNat y4.1) (0, 0, 0, 0)).2.2.1))))))
  (Sum.inl ((IntKind.i64.wrap (y4.1 + (1 : Int))), y4.2))))
  (Sum.inr (Sum.inl ((IntKind.i64.wrap (y2.1 + (1 : Int))), y4.2))))
abbrev qs0_ref05_most_0 (p0 : N5) (y4 : (Int × (List Int))) : Bool := (decide ((List.getD (List.set y4.2 (Int.toNat (List.getD p0.2 (Int.toNat y4.1) (0, 0, 0, 0)).2.1) (min (List.getD y4.2 (Int.toNat (List.getD p0.2 (Int.toNat y4.1) (0, 0, 0, 0)).2.1) (0 : Int)) (IntKind.i64.wrap ((List.getD y4.2 (Int.toNat (List.getD p0.2 (Int.toNat y4.1) (0, 0, 0, 0)).1) (0 : Int)) + (List.getD p0.2 (Int.toNat y4.1) (0, 0, 0, 0)).2.2.2)))) (Int.toNat (List.getD p0.2 (Int.toNat y4.1) (0, 0, 0, 0)).2.1) (0 : Int)) < (50000000 : Int)))
abbrev qs1_ref05_most_0 (p0 : N5) (y4 : (Int × (List Int))) : Bool := (decide ((List.getD y4.2 (Int.toNat (List.getD p0.2 (Int.toNat y4.1) (0, 0, 0, 0)).2.1) (0 : Int)) < (50000000 : Int)))
abbrev qs2_ref05_most_0 (p0 : N5) (y4 : (Int × (List Int))) : Bool := (decide ((List.getD y4.2 (Int.toNat (List.getD p0.2 (Int.toNat y4.1) (0, 0, 0, 0)).1) (0 : Int)) < (50000000 : Int)))
abbrev sp_ref05_most_0 (p0 : N5) (p1 : Int) (p2 : Int) (y0 : (Int × (List Int))) (y2 : (Int × (List Int))) (y4 : (Int × (List Int))) : List Prop := [(((decide (y4.1 < (List.length p0.2 : Int))) = true) → ((0 : Int) ≤ y4.1)),
  (((decide (y4.1 < (List.length p0.2 : Int))) = true) → (y4.1 < (List.length p0.2 : Int))),
  (((decide (y4.1 < (List.length p0.2 : Int))) = true) → ((0 : Int) ≤ (List.getD p0.2 (Int.toNat y4.1) (0, 0, 0, 0)).1)),
  (((decide (y4.1 < (List.length p0.2 : Int))) = true) → ((List.getD p0.2 (Int.toNat y4.1) (0, 0, 0, 0)).1 < (List.length y4.2 : Int))),
  (((decide (y4.1 < (List.length p0.2 : Int))) = true) → (((qs2_ref05_most_0 p0 y4) = true) → ((0 : Int) ≤ (List.getD p0.2 (Int.toNat y4.1) (0, 0, 0, 0)).2.1))),
  (((decide (y4.1 < (List.length p0.2 : Int))) = true) → (((qs2_ref05_most_0 p0 y4) = true) → ((List.getD p0.2 (Int.toNat y4.1) (0, 0, 0, 0)).2.1 < (List.length y4.2 : Int)))),
  (((decide (y4.1 < (List.length p0.2 : Int))) = true) → (((qs2_ref05_most_0 p0 y4) = true) → ((0 : Int) ≤ (List.getD p0.2 (Int.toNat y4.1) (0, 0, 0, 0)).1))),
  (((decide (y4.1 < (List.length p0.2 : Int))) = true) → (((qs2_ref05_most_0 p0 y4) = true) → ((List.getD p0.2 (Int.toNat y4.1) (0, 0, 0, 0)).1 < (List.length y4.2 : Int)))),
  (((decide (y4.1 < (List.length p0.2 : Int))) = true) → (((qs2_ref05_most_0 p0 y4) = true) → ((List.getD p0.2 (Int.toNat y4.1) (0, 0, 0, 0)).2.1 < (((List.length (List.set y4.2 (Int.toNat (List.getD p0.2 (Int.toNat y4.1) (0, 0, 0, 0)).2.1) (min (List.getD y4.2 (Int.toNat (List.getD p0.2 (Int.toNat y4.1) (0, 0, 0, 0)).2.1) (0 : Int)) (IntKind.i64.wrap ((List.getD y4.2 (Int.toNat (List.getD p0.2 (Int.toNat y4.1) (0, 0, 0, 0)).1) (0 : Int)) + (List.getD p0.2 (Int.toNat y4.1) (0, 0, 0, 0)).2.2.2))))) : Nat) : Int)))),
  (((decide (y4.1 < (List.length p0.2 : Int))) = true) → (((qs2_ref05_most_0 p0 y4) = true) → (((qs0_ref05_most_0 p0 y4) = true) → ((0 : Int) ≤ (List.getD p0.2 (Int.toNat y4.1) (0, 0, 0, 0)).1)))),
  (((decide (y4.1 < (List.length p0.2 : Int))) = true) → (((qs2_ref05_most_0 p0 y4) = true) → (((qs0_ref05_most_0 p0 y4) = true) → ((List.getD p0.2 (Int.toNat y4.1) (0, 0, 0, 0)).1 < (((List.length (List.set y4.2 (Int.toNat (List.getD p0.2 (Int.toNat y4.1) (0, 0, 0, 0)).2.1) (min (List.getD y4.2 (Int.toNat (List.getD p0.2 (Int.toNat y4.1) (0, 0, 0, 0)).2.1) (0 : Int)) (IntKind.i64.wrap ((List.getD y4.2 (Int.toNat (List.getD p0.2 (Int.toNat y4.1) (0, 0, 0, 0)).1) (0 : Int)) + (List.getD p0.2 (Int.toNat y4.1) (0, 0, 0, 0)).2.2.2))))) : Nat) : Int))))),
  (((decide (y4.1 < (List.length p0.2 : Int))) = true) → (((qs2_ref05_most_0 p0 y4) = true) → (((qs0_ref05_most_0 p0 y4) = true) → ((0 : Int) ≤ (List.getD p0.2 (Int.toNat y4.1) (0, 0, 0, 0)).2.1)))),
  (((decide (y4.1 < (List.length p0.2 : Int))) = true) → (((qs2_ref05_most_0 p0 y4) = true) → (((qs0_ref05_most_0 p0 y4) = true) → ((List.getD p0.2 (Int.toNat y4.1) (0, 0, 0, 0)).2.1 < (((List.length (List.set y4.2 (Int.toNat (List.getD p0.2 (Int.toNat y4.1) (0, 0, 0, 0)).2.1) (min (List.getD y4.2 (Int.toNat (List.getD p0.2 (Int.toNat y4.1) (0, 0, 0, 0)).2.1) (0 : Int)) (IntKind.i64.wrap ((List.getD y4.2 (Int.toNat (List.getD p0.2 (Int.toNat y4.1) (0, 0, 0, 0)).1) (0 : Int)) + (List.getD p0.2 (Int.toNat y4.1) (0, 0, 0, 0)).2.2.2))))) : Nat) : Int))))),
  (((decide (y4.1 < (List.length p0.2 : Int))) = true) → (((qs2_ref05_most_0 p0 y4) = false) → ((0 : Int) ≤ (List.getD p0.2 (Int.toNat y4.1) (0, 0, 0, 0)).2.1))),
  (((decide (y4.1 < (List.length p0.2 : Int))) = true) → (((qs2_ref05_most_0 p0 y4) = false) → ((List.getD p0.2 (Int.toNat y4.1) (0, 0, 0, 0)).2.1 < (List.length y4.2 : Int)))),
  (((decide (y4.1 < (List.length p0.2 : Int))) = true) → (((qs2_ref05_most_0 p0 y4) = false) → (((qs1_ref05_most_0 p0 y4) = true) → ((0 : Int) ≤ (List.getD p0.2 (Int.toNat y4.1) (0, 0, 0, 0)).1)))),
  (((decide (y4.1 < (List.length p0.2 : Int))) = true) → (((qs2_ref05_most_0 p0 y4) = false) → (((qs1_ref05_most_0 p0 y4) = true) → ((List.getD p0.2 (Int.toNat y4.1) (0, 0, 0, 0)).1 < (List.length y4.2 : Int))))),
  (((decide (y4.1 < (List.length p0.2 : Int))) = true) → (((qs2_ref05_most_0 p0 y4) = false) → (((qs1_ref05_most_0 p0 y4) = true) → ((0 : Int) ≤ (List.getD p0.2 (Int.toNat y4.1) (0, 0, 0, 0)).2.1)))),
  (((decide (y4.1 < (List.length p0.2 : Int))) = true) → (((qs2_ref05_most_0 p0 y4) = false) → (((qs1_ref05_most_0 p0 y4) = true) → ((List.getD p0.2 (Int.toNat y4.1) (0, 0, 0, 0)).2.1 < (List.length y4.2 : Int)))))]
def st_ref05_most_1 (p0 : N5) (p1 : Int) (p2 : Int) (y0 : (Int × (List Int))) (y2 : (Int × (List Int))) : (Int × (List Int)) ⊕ ((Int × (List Int)) ⊕ (Int × Bool)) :=
 (cond (decide (y2.1 < p0.1)) (lpv (Sum.inr (Sum.inr ((0 : Int), false))) (st_ref05_most_0 p0 p1 p2 y0 y2) ((0 : Int), y2.2))
  (Sum.inr (Sum.inr ((List.getD y2.2 (Int.toNat p2) 0), (decide ((List.getD y2.2 (Int.toNat p2) 0) < (50000000 : Int)))))))
abbrev sp_ref05_most_1 (p0 : N5) (p1 : Int) (p2 : Int) (y0 : (Int × (List Int))) (y2 : (Int × (List Int))) : List Prop := [(((decide (y2.1 < p0.1)) = true) → (OkL (st_ref05_most_0 p0 p1 p2 y0 y2) (sp_ref05_most_0 p0 p1 p2 y0 y2) ((0 : Int), y2.2))),
  (((decide (y2.1 < p0.1)) = false) → ((0 : Int) ≤ p2)),
  (((decide (y2.1 < p0.1)) = false) → (p2 < (List.length y2.2 : Int)))]
def st_ref05_most_2 (p0 : N5) (p1 : Int) (p2 : Int) (y0 : (Int × (List Int))) : (Int × (List Int)) ⊕ (Int × Bool) :=
 (cond (decide (y0.1 < (List.length y0.2 : Int))) (Sum.inl ((IntKind.i64.wrap (y0.1 + (1 : Int))), (List.set y0.2 (Int.toNat y0.1) (100000000 : Int))))
  (lpv (Sum.inr ((0 : Int), false)) (st_ref05_most_1 p0 p1 p2 y0) ((0 : Int), (List.set y0.2 (Int.toNat p1) (0 : Int)))))
abbrev sp_ref05_most_2 (p0 : N5) (p1 : Int) (p2 : Int) (y0 : (Int × (List Int))) : List Prop := [(((decide (y0.1 < (List.length y0.2 : Int))) = true) → ((0 : Int) ≤ y0.1)),
  (((decide (y0.1 < (List.length y0.2 : Int))) = true) → (y0.1 < (List.length y0.2 : Int))),
  (((decide (y0.1 < (List.length y0.2 : Int))) = false) → ((0 : Int) ≤ p1)),
  (((decide (y0.1 < (List.length y0.2 : Int))) = false) → (p1 < (List.length y0.2 : Int))),
  (((decide (y0.1 < (List.length y0.2 : Int))) = false) → (OkL (st_ref05_most_1 p0 p1 p2 y0) (sp_ref05_most_1 p0 p1 p2 y0) ((0 : Int), (List.set y0.2 (Int.toNat p1) (0 : Int)))))]
def s_ref05_most (p0 : N5) (p1 : Int) (p2 : Int) : (Int × Bool) :=
 (lpv ((0 : Int), false) (st_ref05_most_2 p0 p1 p2) ((0 : Int), (List.replicate (Int.toNat p0.1) (0 : Int))))
abbrev pre_ref05_most (p0 : N5) (p1 : Int) (p2 : Int) : List Prop := [((0 : Int) ≤ p0.1),
  (((8 : Int) * p0.1) ≤ (281474976710656 : Int)),
  (p0.1 ≤ (9223372036854775807 : Int)),
  (OkL (st_ref05_most_2 p0 p1 p2) (sp_ref05_most_2 p0 p1 p2) ((0 : Int), (List.replicate (Int.toNat p0.1) (0 : Int))))]
set_option maxHeartbeats 4000000 in
theorem d_ref05_most (p0 : N5) (p1 : Int) (p2 : Int) (K : (Int × Bool) → Prop) (hp : ∀ p ∈ pre_ref05_most p0 p1 p2, p) (h : K (s_ref05_most p0 p1 p2)) : w_ref05_most p0 p1 p2 K := by
 unfold w_ref05_most
 unfold s_ref05_most at h
 obtain ⟨hp0, hp1, hp2, hp3, _⟩ := conj_of hp
 exact ⟨(hp0), (hp1), (hp2), (loop_gen (hp3) h (fun y0 k0 hp h => by
 unfold st_ref05_most_2 at h; obtain ⟨hp0, hp1, hp2, hp3, hp4, _⟩ := conj_of hp
 exact (br' h (fun e1 h => ⟨(hp0 e1), (hp1 e1), h⟩)
  (fun e1 h => ⟨(hp2 e1), (hp3 e1), (loop_gen (hp4 e1) h (fun y2 k2 hp h => by
 unfold st_ref05_most_1 at h; obtain ⟨hp0, hp1, hp2, _⟩ := conj_of hp
 exact (br' h (fun e3 h => (loop_gen (hp0 e3) h (fun y4 k4 hp h => by
 unfold st_ref05_most_0 at h; obtain ⟨hp0, hp1, hp2, hp3, hp4, hp5, hp6, hp7, hp8, hp9, hp10, hp11, hp12, hp13, hp14, hp15, hp16, hp17, hp18, _⟩ := conj_of hp
 exact (br' h (fun e5 h => ⟨(hp0 e5), (hp1 e5), (hp2 e5), (hp3 e5), (br' h (fun e6 h => ⟨(hp4 e5 e6), (hp5 e5 e6), (hp6 e5 e6), (hp7 e5 e6), (hp4 e5 e6), (hp5 e5 e6), (hp4 e5 e6), (hp8 e5 e6), (br' h (fun e7 h => ⟨(hp9 e5 e6 e7), (hp10 e5 e6 e7), (hp11 e5 e6 e7), (hp12 e5 e6 e7), (hp9 e5 e6 e7), (hp10 e5 e6 e7), h⟩)
  (fun e7 h => h))⟩)
  (fun e6 h => ⟨(hp13 e5 e6), (hp14 e5 e6), (br' h (fun e8 h => ⟨(hp15 e5 e6 e8), (hp16 e5 e6 e8), (hp17 e5 e6 e8), (hp18 e5 e6 e8), (hp15 e5 e6 e8), (hp16 e5 e6 e8), h⟩)
  (fun e8 h => h))⟩))⟩)
  (fun e5 h => h)))))
  (fun e3 h => ⟨(hp1 e3), (hp2 e3), (hp1 e3), (hp2 e3), h⟩))))⟩))))⟩
/-- Values where they are known, a great number where not. -/
def v_code (n : Nat) (s : List Int × List Bool) : List Int := (List.range' 0 n).map fun i => cond (s.2.getD i false) (s.1.getD i 0) 100000000
theorem v_code_len (n : Nat) (s : List Int × List Bool) : (v_code n s).length = n := by simp [v_code]
theorem v_code_get {n i : Nat} {s : List Int × List Bool} (h : i < n) : (v_code n s).getD i 0 = cond (s.2.getD i false) (s.1.getD i 0) 100000000 := by
 unfold v_code
 rw [List.getD_eq_getElem?_getD, List.getElem?_map, List.getElem?_range' h]; simp
def v_cnt (n : Nat) (s : List Int × List Bool) : Nat := (List.range n).countP fun i => s.2.getD i false
/-- What is known is not far above 0. -/
def v_up (n : Nat) (s : List Int × List Bool) : Prop := ∀ i, i < n → s.2.getD i false = true → s.1.getD i 0 ≤ ((v_cnt n s : Nat) - 1 : Int) * 1000000
def v_stp (s : List Int × List Bool) (b : Int × Int × Int) : List Int × List Bool := ((v_rx (s.1, s.2, false) b).1, (v_rx (s.1, s.2, false) b).2.1)
theorem v_stp_fold : ∀ (bs : List (Int × Int × Int)) (v : List Int) (k : List Bool) (ch : Bool), ((bs.foldl v_rx (v, k, ch)).1, (bs.foldl v_rx (v, k, ch)).2.1) = bs.foldl v_stp (v, k)
 | [], _, _, _ => rfl
 | b :: bs, v, k, ch => by
  rw [List.foldl_cons, List.foldl_cons]
  have e : v_stp (v, k) b = ((v_rx (v, k, ch) b).1, (v_rx (v, k, ch) b).2.1) := by
   unfold v_stp v_rx
   cases (k.getD b.2.1.toNat false && (!(k.getD b.1.toNat false) || decide (v.getD b.2.1.toNat 0 + b.2.2 < v.getD b.1.toNat 0))) <;> rfl
  rw [e, ← v_stp_fold bs _ _ (v_rx (v, k, ch) b).2.2]
theorem v_cnt_lt {p q : Nat → Bool} {n k : Nat} (hk : k < n) (h : ∀ i, p i = true → q i = true) (hp : p k = false) (hq : q k = true) : (List.range n).countP p < (List.range n).countP q := by
 have mono : ∀ {n : Nat}, (List.range n).countP p ≤ (List.range n).countP q := by
  intro n
  induction n with
  | zero => simp
  | succ n ih =>
   rw [List.range_succ, List.countP_append, List.countP_append, List.countP_singleton, List.countP_singleton]
   cases hp : p n with
   | false => simp; omega
   | true => rw [h n hp]; simp; omega
 induction n with
 | zero => omega
 | succ n ih =>
  rw [List.range_succ, List.countP_append, List.countP_append, List.countP_singleton, List.countP_singleton]
  rcases Nat.lt_or_ge k n with hk' | hk'
  ·have h1 := ih hk'
   cases hpn : p n with
   | false => simp; omega
   | true => rw [h n hpn]; simp; omega
  ·have : k = n := by omega
   subst this
   have := mono (n := k)
   rw [hp, hq]; simp; omega
structure v_mok (n t : Nat) (s : List Int × List Bool) : Prop where
 bd : v_bd n t s.1 s.2
 up : v_up n s
theorem v_cnt_le (n : Nat) (s : List Int × List Bool) : v_cnt n s ≤ n := by
 have := List.countP_le_length (p := fun i => s.2.getD i false) (l := List.range n)
 rw [List.length_range] at this; exact this
theorem v_mok_stp {n t : Nat} {s : List Int × List Bool} {b : Int × Int × Int} (h : v_mok n t s) (hb : v_bok n b) : v_mok n (t + 1) (v_stp s b) := by
 refine ⟨v_rx_bd (s := (s.1, s.2, false)) h.bd hb, ?_⟩
 obtain ⟨b1, b2, b3⟩ := hb
 have vl := h.bd.vl
 have kl := h.bd.kl
 unfold v_stp v_rx
 cases hf : s.2.getD b.2.1.toNat false with
 | false => simp only [Bool.false_and, cond_false]; exact h.up
 | true =>
  have hu := h.up b.2.1.toNat (by omega) hf
  cases ht : s.2.getD b.1.toNat false with
  | false =>
   simp only [Bool.true_and, Bool.not_false, Bool.true_or, cond_true]
   have hc : v_cnt n s < v_cnt n (s.1.set b.1.toNat (s.1.getD b.2.1.toNat 0 + b.2.2), s.2.set b.1.toNat true) := by
    refine v_cnt_lt (k := b.1.toNat) (by omega) (fun i hi => ?_) ht ?_
    ·by_cases e : i = b.1.toNat
     ·subst e; rw [ht] at hi; cases hi
     ·rw [List.getD_eq_getElem?_getD, List.getElem?_set, if_neg (fun h => e h.symm), ← List.getD_eq_getElem?_getD]; exact hi
    ·simp only; rw [gd_set (by omega), if_pos rfl]
   intro i hi hk
   simp only at hk ⊢
   generalize hC : v_cnt n (s.1.set b.1.toNat (s.1.getD b.2.1.toNat 0 + b.2.2), s.2.set b.1.toNat true) = C at *
   by_cases e : i = b.1.toNat
   ·subst e
    rw [gd_set (by omega), if_pos rfl]
    omega
   ·rw [List.getD_eq_getElem?_getD, List.getElem?_set, if_neg (fun h => e h.symm), ← List.getD_eq_getElem?_getD] at hk ⊢
    have := h.up i hi hk
    omega
  | true =>
   cases hd : decide (s.1.getD b.2.1.toNat 0 + b.2.2 < s.1.getD b.1.toNat 0) with
   | false => simp only [Bool.not_true, Bool.or_false, Bool.and_false, cond_false]; exact h.up
   | true =>
    have hd := of_decide_eq_true hd
    simp only [Bool.not_true, Bool.false_or, Bool.and_true, cond_true]
    have hset : s.2.set b.1.toNat true = s.2 := by
     refine List.ext_getElem? fun i => ?_
     rw [List.getElem?_set]
     by_cases e : b.1.toNat = i
     ·subst e
      rw [if_pos rfl, if_pos (by omega)]
      rw [List.getD_eq_getElem?_getD] at ht
      cases hx : s.2[b.1.toNat]? with
      | none => rw [hx] at ht; cases ht
      | some x => rw [hx] at ht; simp at ht; rw [ht]
     ·rw [if_neg e]
    rw [hset]
    intro i hi hk
    simp only at hk ⊢
    have hcnt : v_cnt n (s.1.set b.1.toNat (s.1.getD b.2.1.toNat 0 + b.2.2), s.2) = v_cnt n s := rfl
    rw [hcnt]
    by_cases e : i = b.1.toNat
    ·subst e
     rw [gd_set (by omega), if_pos rfl]
     have := h.up b.1.toNat hi ht
     omega
    ·rw [List.getD_eq_getElem?_getD, List.getElem?_set, if_neg (fun h => e h.symm), ← List.getD_eq_getElem?_getD]
     exact h.up i hi hk
/-- A bound is kept among numbers. -/
theorem v_code_stp {n t : Nat} {s : List Int × List Bool} {b : Int × Int × Int} (hn : n ≤ 8) (ht : t ≤ 400) (h : v_mok n t s) (hb : v_bok n b) :
  cond (decide ((v_code n s).getD b.2.1.toNat 0 < 50000000)) ((v_code n s).set b.1.toNat (min ((v_code n s).getD b.1.toNat 0) ((v_code n s).getD b.2.1.toNat 0 + b.2.2))) (v_code n s) = v_code n (v_stp s b) ∧
  (-(1000000000 : Int) ≤ (v_code n s).getD b.2.1.toNat 0 ∧ (v_code n s).getD b.2.1.toNat 0 ≤ 1000000000) := by
 obtain ⟨b1, b2, b3⟩ := hb
 have vl := h.bd.vl
 have kl := h.bd.kl
 have cl := v_cnt_le n s
 have hf2 : b.2.1.toNat < n := by omega
 have ht2 : b.1.toNat < n := by omega
 rw [v_code_get hf2, v_code_get ht2]
 have sm := h.bd.small b.2.1.toNat
 have sm1 := h.bd.small b.1.toNat
 cases hf : s.2.getD b.2.1.toNat false with
 | false =>
  simp only [cond_false]
  refine ⟨?_, by omega⟩
  have e : v_stp s b = s := by unfold v_stp v_rx; simp only [hf, Bool.false_and, cond_false]
  rw [e]; rfl
 | true =>
  have hu := h.up b.2.1.toNat hf2 hf
  simp only [cond_true]
  refine ⟨?_, by omega⟩
  rw [decide_eq_true (show s.1.getD b.2.1.toNat 0 < 50000000 by omega)]
  simp only [cond_true]
  refine List.ext_getElem? fun i => ?_
  rw [List.getElem?_set, v_code_len]
  have hget : ∀ (u : List Int × List Bool), (v_code n u)[i]? = if i < n then some (cond (u.2.getD i false) (u.1.getD i 0) 100000000) else none := by
   intro u
   rcases Nat.lt_or_ge i n with hi | hi
   ·unfold v_code
    rw [if_pos hi, List.getElem?_map, List.getElem?_range' hi]; simp
   ·rw [if_neg (by omega), List.getElem?_eq_none (by rw [v_code_len]; exact hi)]
  rw [hget, hget]
  unfold v_stp v_rx
  simp only [hf, Bool.true_and]
  by_cases e : b.1.toNat = i
  ·subst e
   rw [if_pos rfl, if_pos ht2, if_pos ht2]
   cases hk : s.2.getD b.1.toNat false with
   | false =>
    simp only [Bool.not_false, Bool.true_or, cond_true, cond_false]
    rw [gd_set (by omega), gd_set (by omega), if_pos rfl, if_pos rfl]
    simp only [cond_true, Option.some.injEq]
    omega
   | true =>
    cases hd : decide (s.1.getD b.2.1.toNat 0 + b.2.2 < s.1.getD b.1.toNat 0) with
    | false =>
     have := of_decide_eq_false hd
     simp only [Bool.not_true, Bool.or_false, cond_false, cond_true, hk, Option.some.injEq]
     omega
    | true =>
     have := of_decide_eq_true hd
     simp only [Bool.not_true, Bool.or_true, cond_true]
     rw [gd_set (by omega), gd_set (by omega), if_pos rfl, if_pos rfl]
     simp only [cond_true, Option.some.injEq]
     omega
  ·rw [if_neg e]
   cases (!(s.2.getD b.1.toNat false) || decide (s.1.getD b.2.1.toNat 0 + b.2.2 < s.1.getD b.1.toNat 0)) with
   | false => rfl
   | true =>
    simp only [cond_true, List.getD_eq_getElem?_getD, List.getElem?_set, if_neg e]
/-- So many rounds. -/
def v_turns (bs : List (Int × Int × Int)) : Nat → List Int × List Bool → List Int × List Bool
 | 0, s => s
 | r + 1, s => v_turns bs r (bs.foldl v_stp s)
/-- The maximum difference of two stations, after as many rounds as there are stations. -/
def v_mst (n : Int) (l : List (Int × Int × Int × Int)) (a b : Int) : Int × Bool := ((v_code n.toNat (v_turns (v_bnd l) n.toNat (List.replicate n.toNat 0, (List.replicate n.toNat false).set a.toNat true))).getD b.toNat 0, decide ((v_code n.toNat (v_turns (v_bnd l) n.toNat (List.replicate n.toNat 0, (List.replicate n.toNat false).set a.toNat true))).getD b.toNat 0 < 50000000))
theorem v_mok_fold {n : Nat} : ∀ (bs : List (Int × Int × Int)) {t : Nat} {s : List Int × List Bool}, v_mok n t s → (∀ b ∈ bs, v_bok n b) → v_mok n (t + bs.length) (bs.foldl v_stp s)
 | [], _, _, h, _ => h
 | b :: bs, t, s, h, hb => by
  have := v_mok_fold bs (v_mok_stp h (hb b (by simp))) (fun c hc => hb c (by simp [hc]))
  rw [List.foldl_cons, List.length_cons, show t + (bs.length + 1) = t + 1 + bs.length by omega]
  exact this
theorem l_ref05_most_0 (p0 : Int × List (Int × Int × Int × Int)) (p1 p2 : Int) (y0 y2 : Int × List Int) (h : v_nokI p0.1 p0.2) {t0 : Nat} (ht0 : t0 ≤ 300) (s : List Int × List Bool) (hs : v_mok p0.1.toNat t0 s) :
  OkL (st_ref05_most_0 p0 p1 p2 y0 y2) (sp_ref05_most_0 p0 p1 p2 y0 y2) (0, v_code p0.1.toNat s) ∧ lpv (Sum.inr (Sum.inr (0, false))) (st_ref05_most_0 p0 p1 p2 y0 y2) (0, v_code p0.1.toNat s) = Sum.inl (IntKind.i64.wrap (y2.1 + 1), v_code p0.1.toNat ((v_bnd p0.2).foldl v_stp s)) := by
 have few := h.1.len
 have n8 := h.1.n8
 have n0 := h.2
 refine list_is (fun i (s : List Int × List Bool) => (i, v_code p0.1.toNat s)) p0.2 (0, 0, 0, 0) (fun r s => r.length ≤ p0.2.length ∧ v_mok p0.1.toNat (t0 + 2 * (p0.2.length - r.length)) s) (fun r s => Sum.inl (IntKind.i64.wrap (y2.1 + 1), v_code p0.1.toNat ((v_bnd r).foldl v_stp s))) (lenOk_le (n := 12) few (by decide)) ?_ ?_ s ⟨Nat.le_refl _, by simpa using hs⟩
 ·intro s _
  have hd : decide ((p0.2.length : Int) < (p0.2.length : Nat)) = false := decide_eq_false (by omega)
  refine ⟨by simp only [sp_ref05_most_0, List.forall_mem_cons, hd]; simp, ?_⟩
  simp only [st_ref05_most_0, hd, cond_false, v_bnd, List.foldl_nil]
 ·intro j s hj ⟨_, hm⟩
  have hd : decide ((j : Int) < (p0.2.length : Nat)) = true := decide_eq_true (by omega)
  have e1 : (p0.2.getD j (0, 0, 0, 0) :: p0.2.drop (j + 1)).length = p0.2.length - j := by simp; omega
  have e2 : (p0.2.drop (j + 1)).length = p0.2.length - (j + 1) := by simp
  rw [e1] at hm
  have htie := h.1.all _ (getD_mem' (0, 0, 0, 0) hj)
  rw [e2]
  simp only [v_bnd, List.foldl_cons]
  generalize hT : p0.2.getD j (0, 0, 0, 0) = T at *
  obtain ⟨t1, t2, _, t3, t4, _⟩ := htie
  have ok1 : v_bok p0.1.toNat (T.2.1, T.1, T.2.2.2) := ⟨t2, t1, t4⟩
  have ok2 : v_bok p0.1.toNat (T.1, T.2.1, 0 - T.2.2.1) := ⟨t1, t2, by simp only; omega⟩
  obtain ⟨k1, k2⟩ := v_code_stp n8 (by omega) hm ok1
  have hm1 := v_mok_stp hm ok1
  obtain ⟨k3, k4⟩ := v_code_stp n8 (by omega) hm1 ok2
  have hm2 := v_mok_stp hm1 ok2
  have cl := v_code_len p0.1.toNat s
  have cl1 := v_code_len p0.1.toNat (v_stp s (T.2.1, T.1, T.2.2.2))
  simp only at k1 k2 k3 k4
  have w1 : IntKind.i64.wrap ((v_code p0.1.toNat s).getD T.1.toNat 0 + T.2.2.2) = (v_code p0.1.toNat s).getD T.1.toNat 0 + T.2.2.2 := wrap_id (by omega) (by omega)
  have w2 : IntKind.i64.wrap ((v_code p0.1.toNat (v_stp s (T.2.1, T.1, T.2.2.2))).getD T.2.1.toNat 0 - T.2.2.1) = (v_code p0.1.toNat (v_stp s (T.2.1, T.1, T.2.2.2))).getD T.2.1.toNat 0 + (0 - T.2.2.1) := by rw [wrap_id (by omega) (by omega)]; omega
  refine ⟨?_, .inl ⟨v_stp (v_stp s (T.2.1, T.1, T.2.2.2)) (T.1, T.2.1, 0 - T.2.2.1), ?_, ⟨by omega, ?_⟩, rfl⟩⟩
  ·simp only [sp_ref05_most_0, List.forall_mem_cons, Int.toNat_natCast, hT, List.length_set, cl]
   and_intros
   all_goals first | (intros; omega) | (intro p hp; cases hp)
  ·simp only [st_ref05_most_0, hd, cond_true, Int.toNat_natCast, hT, wrap_nat (show (j : Int) ≤ 9223372036854775806 by omega), w1]
   cases c1 : decide ((v_code p0.1.toNat s).getD T.1.toNat 0 < 50000000) <;> rw [c1] at k1 <;> simp only [cond_true, cond_false] at k1 ⊢
   ·rw [k1, w2]
    cases c2 : decide ((v_code p0.1.toNat (v_stp s (T.2.1, T.1, T.2.2.2))).getD T.2.1.toNat 0 < 50000000) <;> rw [c2] at k3 <;> simp only [cond_true, cond_false] at k3 ⊢ <;> rw [k3]
   ·rw [k1, w2]
    cases c2 : decide ((v_code p0.1.toNat (v_stp s (T.2.1, T.1, T.2.2.2))).getD T.2.1.toNat 0 < 50000000) <;> rw [c2] at k3 <;> simp only [cond_true, cond_false] at k3 ⊢ <;> rw [k3]
  ·rw [show t0 + 2 * (p0.2.length - (p0.2.length - (j + 1))) = t0 + 2 * (p0.2.length - (p0.2.length - j)) + 1 + 1 by omega]; exact hm2
theorem l_ref05_most_1 (p0 : Int × List (Int × Int × Int × Int)) (p1 p2 : Int) (y0 : Int × List Int) (h : v_nokI p0.1 p0.2) (h2 : 0 ≤ p2 ∧ p2 < p0.1) (s : List Int × List Bool) (hs : v_mok p0.1.toNat 0 s) :
  OkL (st_ref05_most_1 p0 p1 p2 y0) (sp_ref05_most_1 p0 p1 p2 y0) (0, v_code p0.1.toNat s) ∧ lpv (Sum.inr (0, false)) (st_ref05_most_1 p0 p1 p2 y0) (0, v_code p0.1.toNat s) = Sum.inr ((v_code p0.1.toNat (v_turns (v_bnd p0.2) p0.1.toNat s)).getD p2.toNat 0, decide ((v_code p0.1.toNat (v_turns (v_bnd p0.2) p0.1.toNat s)).getD p2.toNat 0 < 50000000)) := by
 have few := h.1.len
 have n8 := h.1.n8
 have n0 := h.2
 have hbl := v_bnd_len p0.2
 have hbk := v_bnd_ok h.1.all
 have := for_is (dd := (Sum.inr (0, false) : (Int × List Int) ⊕ (Int × Bool))) (st := st_ref05_most_1 p0 p1 p2 y0) (sp := sp_ref05_most_1 p0 p1 p2 y0) (fun i (s : List Int × List Bool) => (i, v_code p0.1.toNat s)) 0 p0.1.toNat (fun j s => v_mok p0.1.toNat (24 * j) s) (fun j s => Sum.inr ((v_code p0.1.toNat (v_turns (v_bnd p0.2) (p0.1.toNat - j) s)).getD p2.toNat 0, decide ((v_code p0.1.toNat (v_turns (v_bnd p0.2) (p0.1.toNat - j) s)).getD p2.toNat 0 < 50000000))) (by omega) (by omega) ?_ ?_ s hs
 ·exact this
 ·intro s _
  have hd : decide ((p0.1.toNat : Int) < p0.1) = false := decide_eq_false (by omega)
  refine ⟨by simp only [sp_ref05_most_1, List.forall_mem_cons, hd, v_code_len]; exact ⟨fun h => (by cases h), fun _ => h2.1, fun _ => by omega, by simp⟩, ?_⟩
  simp only [st_ref05_most_1, hd, cond_false, Nat.sub_self, v_turns]
 ·intro j s _ hj hs
  have hd : decide ((j : Int) < p0.1) = true := decide_eq_true (by omega)
  obtain ⟨g1, g2⟩ := l_ref05_most_0 p0 p1 p2 y0 ((j : Int), v_code p0.1.toNat s) h (t0 := 24 * j) (by omega) s hs
  refine ⟨by simp only [sp_ref05_most_1, List.forall_mem_cons, hd]; exact ⟨fun _ => g1, fun h => (by cases h), fun h => (by cases h), by simp⟩, .inl ⟨(v_bnd p0.2).foldl v_stp s, ?_, ?_, ?_⟩⟩
  ·simp only [st_ref05_most_1, hd, cond_true]
   rw [g2]
   simp only [wrap_nat (show (j : Int) ≤ 9223372036854775806 by omega)]
  ·have := v_mok_fold (v_bnd p0.2) hs hbk
   refine ⟨⟨this.bd.vl, this.bd.kl, fun i => ?_⟩, this.up⟩
   have := this.bd.small i
   omega
  ·rw [show p0.1.toNat - j = p0.1.toNat - (j + 1) + 1 by omega]; rfl
theorem rep_get {α : Type} {n i : Nat} {x d : α} (h : i < n) : (List.replicate n x).getD i d = x := by
 rw [List.getD_eq_getElem?_getD, List.getElem?_replicate, if_pos h]; rfl
theorem v_code_init {n : Nat} {a : Nat} (ha : a < n) : (List.replicate n (100000000 : Int)).set a 0 = v_code n (List.replicate n 0, (List.replicate n false).set a true) := by
 refine gd_ext 0 (by simp [v_code_len]) fun i hi => ?_
 rw [List.length_set, List.length_replicate] at hi
 rw [gd_set (by simpa using ha), v_code_get hi]
 simp only
 rw [gd_set (by simpa using ha), rep_get hi, rep_get hi, rep_get hi]
 by_cases e : i = a
 ·rw [if_pos e, if_pos e]; rfl
 ·rw [if_neg e, if_neg e]; rfl
theorem v_mok_init {n : Nat} {a : Nat} (ha : a < n) : v_mok n 0 (List.replicate n 0, (List.replicate n false).set a true) := by
 have hz : ∀ i, (List.replicate n (0 : Int)).getD i 0 = 0 := fun i => by
  rw [List.getD_eq_getElem?_getD, List.getElem?_replicate]; split <;> rfl
 refine ⟨⟨by simp, by simp, fun i => by rw [hz]; omega⟩, fun i hi _ => ?_⟩
 have := v_cnt_lt (p := fun _ => false) (q := fun i => ((List.replicate n false).set a true).getD i false) ha (by simp) rfl (by rw [gd_set (by simpa using ha), if_pos rfl])
 simp only
 rw [hz]
 unfold v_cnt
 simp only
 omega
theorem l_ref05_most_2 (p0 : Int × List (Int × Int × Int × Int)) (p1 p2 : Int) (h : v_nokI p0.1 p0.2) (h1 : 0 ≤ p1 ∧ p1 < p0.1) (h2 : 0 ≤ p2 ∧ p2 < p0.1) :
  OkL (st_ref05_most_2 p0 p1 p2) (sp_ref05_most_2 p0 p1 p2) (0, List.replicate p0.1.toNat 0) ∧ lpv (0, false) (st_ref05_most_2 p0 p1 p2) (0, List.replicate p0.1.toNat 0) = v_mst p0.1 p0.2 p1 p2 := by
 have n8 := h.1.n8
 have n0 := h.2
 refine for_is (fun i (v : List Int) => (i, v)) 0 p0.1.toNat (fun j v => v.length = p0.1.toNat ∧ ∀ i, i < j → v.getD i 0 = 100000000) (fun _ _ => v_mst p0.1 p0.2 p1 p2) (by omega) (by omega) ?_ ?_ (List.replicate p0.1.toNat 0) ⟨by simp, fun i hi => absurd hi (Nat.not_lt_zero _)⟩
 ·rintro v ⟨hl, hv⟩
  have hd : decide ((p0.1.toNat : Int) < (v.length : Nat)) = false := decide_eq_false (by omega)
  have e : v = List.replicate p0.1.toNat 100000000 := gd_ext 0 (by simp [hl]) fun i hi => by
   rw [hl] at hi
   rw [hv i hi, rep_get hi]
  obtain ⟨g1, g2⟩ := l_ref05_most_1 p0 p1 p2 ((p0.1.toNat : Int), v) h h2 _ (v_mok_init (n := p0.1.toNat) (a := p1.toNat) (by omega))
  rw [← v_code_init (show p1.toNat < p0.1.toNat by omega), ← e] at g1 g2
  refine ⟨by simp only [sp_ref05_most_2, List.forall_mem_cons, hd]; exact ⟨fun h => (by cases h), fun h => (by cases h), fun _ => h1.1, fun _ => by omega, fun _ => g1, by simp⟩, ?_⟩
  simp only [st_ref05_most_2, hd, cond_false]
  rw [g2]; rfl
 ·rintro j v _ hj ⟨hl, hv⟩
  have hd : decide ((j : Int) < (v.length : Nat)) = true := decide_eq_true (by omega)
  refine ⟨by simp only [sp_ref05_most_2, List.forall_mem_cons, hd]; exact ⟨fun _ => by omega, fun _ => by omega, fun h => (by cases h), fun h => (by cases h), fun h => (by cases h), by simp⟩, .inl ⟨v.set j 100000000, ?_, ⟨by simpa using hl, fun i hi => ?_⟩, rfl⟩⟩
  ·simp only [st_ref05_most_2, hd, cond_true, Int.toNat_natCast, wrap_nat (show (j : Int) ≤ 9223372036854775806 by omega)]
  ·rw [gd_set (by omega)]
   by_cases e : i = j
   ·rw [if_pos e]
   ·rw [if_neg e]; exact hv i (by omega)
abbrev t_ref05_most (p0 : Int × List (Int × Int × Int × Int)) (p1 p2 : Int) : Int × Bool := v_mst p0.1 p0.2 p1 p2
abbrev qre_ref05_most (p0 : Int × List (Int × Int × Int × Int)) (p1 p2 : Int) : List Prop := [v_nokI p0.1 p0.2, 0 ≤ p1, p1 < p0.1, 0 ≤ p2, p2 < p0.1]
theorem pp_ref05_most (p0 : Int × List (Int × Int × Int × Int)) (p1 p2 : Int) (hq : ∀ p ∈ qre_ref05_most p0 p1 p2, p) : ∀ p ∈ pre_ref05_most p0 p1 p2, p := by
 obtain ⟨h, a1, a2, b1, b2, _⟩ := conj_of hq
 have n8 := h.1.n8
 have n0 := h.2
 simp only [pre_ref05_most, List.forall_mem_cons]
 exact ⟨by omega, by omega, by omega, (l_ref05_most_2 p0 p1 p2 h ⟨a1, a2⟩ ⟨b1, b2⟩).1, by simp⟩
theorem tt_ref05_most (p0 : Int × List (Int × Int × Int × Int)) (p1 p2 : Int) (hq : ∀ p ∈ qre_ref05_most p0 p1 p2, p) : s_ref05_most p0 p1 p2 = t_ref05_most p0 p1 p2 := by
 obtain ⟨h, a1, a2, b1, b2, _⟩ := conj_of hq
 exact (l_ref05_most_2 p0 p1 p2 h ⟨a1, a2⟩ ⟨b1, b2⟩).2

abbrev con_ref05_most : Con := ⟨P_ref05_most, R_ref05_most, fun x => qre_ref05_most x.1 x.2.1 x.2.2, fun x => t_ref05_most x.1 x.2.1 x.2.2⟩
theorem ok_ref05_most : ConOk Tryd.prog 128 con_ref05_most := ⟨k_ref05_most, fun x hx => ret_tf (ps := P_ref05_most) (rs := R_ref05_most) (x := x) (y := t_ref05_most x.1 x.2.1 x.2.2) e_ref05_most hC_ref05_most (tf_of (w_ref05_most_eq x.1 x.2.1 x.2.2 (fun z => z = t_ref05_most x.1 x.2.1 x.2.2)) (d_ref05_most x.1 x.2.1 x.2.2 (fun z => z = t_ref05_most x.1 x.2.1 x.2.2) (pp_ref05_most x.1 x.2.1 x.2.2 hx) (tt_ref05_most x.1 x.2.1 x.2.2 hx)))⟩
/- ref05_SpanOf -/
def C_ref05_SpanOf : Cons := [(110, [], con_ref05_every), (127, [], con_ref05_Agree), (128, [], con_ref05_most)]
theorem hC_ref05_SpanOf : ConsOk Tryd.prog C_ref05_SpanOf := ConsOk.cons ok_ref05_every <| ConsOk.cons ok_ref05_Agree <| ConsOk.cons ok_ref05_most <| ConsOk.nil
def w_ref05_SpanOf (p0 : N5) (p1 : Int) (p2 : Int) (K : ((Int × Int) × Int) → Prop) : Prop :=
  (((List.length p0.2) ≤ 1000000) ∧
 ((v_setok p0.1 p0.2 (v_all p0.2)) ∧
 ((((!(v_agr p0.1 p0.2 (v_all p0.2))) = true) →
 (K (((0 : Int), (0 : Int)), (13 : Int)))) ∧
 (((!(v_agr p0.1 p0.2 (v_all p0.2))) = false) →
 ((v_nokI p0.1 p0.2) ∧
  (((0 : Int) ≤ p1) ∧
  ((p1 < p0.1) ∧
  (((0 : Int) ≤ p2) ∧
  ((p2 < p0.1) ∧
  ((v_nokI p0.1 p0.2) ∧
  (((0 : Int) ≤ p2) ∧
  ((p2 < p0.1) ∧
  (((0 : Int) ≤ p1) ∧
  ((p1 < p0.1) ∧
  ((((!(v_mst p0.1 p0.2 p1 p2).2) = false) →
  ((!(v_mst p0.1 p0.2 p1 p2).2) = (!(v_mst p0.1 p0.2 p1 p2).2))) ∧
  (((!(v_mst p0.1 p0.2 p1 p2).2) = (!(v_mst p0.1 p0.2 p1 p2).2)) ∧
  ((((cond (!(v_mst p0.1 p0.2 p1 p2).2) true (!(v_mst p0.1 p0.2 p2 p1).2)) = true) →
  (K (((0 : Int), (0 : Int)), (21 : Int)))) ∧
  (((cond (!(v_mst p0.1 p0.2 p1 p2).2) true (!(v_mst p0.1 p0.2 p2 p1).2)) = false) →
  (K (((IntKind.i64.wrap ((0 : Int) - (v_mst p0.1 p0.2 p2 p1).1)), (v_mst p0.1 p0.2 p1 p2).1), (0 : Int)))))))))))))))))))))
set_option maxHeartbeats 4000000 in
theorem w_ref05_SpanOf_eq (p0 : N5) (p1 : Int) (p2 : Int) (K : ((Int × Int) × Int) → Prop) : tfn F_ref05_SpanOf A_ref05_SpanOf C_ref05_SpanOf P_ref05_SpanOf R_ref05_SpanOf (p0, p1, p2) K = w_ref05_SpanOf p0 p1 p2 K := by kernel_rfl
def s_ref05_SpanOf (p0 : N5) (p1 : Int) (p2 : Int) : ((Int × Int) × Int) :=
 (cond (!(v_agr p0.1 p0.2 (v_all p0.2))) (((0 : Int), (0 : Int)), (13 : Int))
  (cond (cond (!(v_mst p0.1 p0.2 p1 p2).2) true (!(v_mst p0.1 p0.2 p2 p1).2)) (((0 : Int), (0 : Int)), (21 : Int))
  (((IntKind.i64.wrap ((0 : Int) - (v_mst p0.1 p0.2 p2 p1).1)), (v_mst p0.1 p0.2 p1 p2).1), (0 : Int))))
abbrev pre_ref05_SpanOf (p0 : N5) (p1 : Int) (p2 : Int) : List Prop := [((List.length p0.2) ≤ 1000000),
  (v_setok p0.1 p0.2 (v_all p0.2)),
  (((!(v_agr p0.1 p0.2 (v_all p0.2))) = false) → (v_nokI p0.1 p0.2)),
  (((!(v_agr p0.1 p0.2 (v_all p0.2))) = false) → ((0 : Int) ≤ p1)),
  (((!(v_agr p0.1 p0.2 (v_all p0.2))) = false) → (p1 < p0.1)),
  (((!(v_agr p0.1 p0.2 (v_all p0.2))) = false) → ((0 : Int) ≤ p2)),
  (((!(v_agr p0.1 p0.2 (v_all p0.2))) = false) → (p2 < p0.1))]
set_option maxHeartbeats 4000000 in
theorem d_ref05_SpanOf (p0 : N5) (p1 : Int) (p2 : Int) (K : ((Int × Int) × Int) → Prop) (hp : ∀ p ∈ pre_ref05_SpanOf p0 p1 p2, p) (h : K (s_ref05_SpanOf p0 p1 p2)) : w_ref05_SpanOf p0 p1 p2 K := by
 unfold w_ref05_SpanOf
 unfold s_ref05_SpanOf at h
 obtain ⟨hp0, hp1, hp2, hp3, hp4, hp5, hp6, _⟩ := conj_of hp
 exact ⟨(hp0), (hp1), (br' h (fun e0 h => h)
  (fun e0 h => ⟨(hp2 e0), (hp3 e0), (hp4 e0), (hp5 e0), (hp6 e0), (hp2 e0), (hp5 e0), (hp6 e0), (hp3 e0), (hp4 e0), rf, rfl, (br' h (fun e1 h => h)
  (fun e1 h => h))⟩))⟩
/-- The span as specified. -/
def v_rspan (p0 : Int × List (Int × Int × Int × Int)) (p1 p2 : Int) : (Int × Int) × Int := cond (!(v_grt p0.1 p0.2).2) ((0, 0), 13) (cond (cond (!(v_mst p0.1 p0.2 p1 p2).2) true (!(v_mst p0.1 p0.2 p2 p1).2)) ((0, 0), 21) ((IntKind.i64.wrap (0 - (v_mst p0.1 p0.2 p2 p1).1), (v_mst p0.1 p0.2 p1 p2).1), 0))
abbrev t_ref05_SpanOf (p0 : Int × List (Int × Int × Int × Int)) (p1 p2 : Int) : (Int × Int) × Int := v_rspan p0 p1 p2
abbrev qre_ref05_SpanOf (p0 : Int × List (Int × Int × Int × Int)) (p1 p2 : Int) : List Prop := [v_nokI p0.1 p0.2, 0 ≤ p1, p1 < p0.1, 0 ≤ p2, p2 < p0.1]
theorem pp_ref05_SpanOf (p0 : Int × List (Int × Int × Int × Int)) (p1 p2 : Int) (hq : ∀ p ∈ qre_ref05_SpanOf p0 p1 p2, p) : ∀ p ∈ pre_ref05_SpanOf p0 p1 p2, p := by
 obtain ⟨h, a1, a2, b1, b2, _⟩ := conj_of hq
 have h12 := h.1.len
 simp only [pre_ref05_SpanOf, List.forall_mem_cons]
 exact ⟨by omega, v_all_ok h, fun _ => h, fun _ => a1, fun _ => a2, fun _ => b1, fun _ => b2, by simp⟩
theorem tt_ref05_SpanOf (p0 : Int × List (Int × Int × Int × Int)) (p1 p2 : Int) (_ : ∀ p ∈ qre_ref05_SpanOf p0 p1 p2, p) : s_ref05_SpanOf p0 p1 p2 = t_ref05_SpanOf p0 p1 p2 := by
 have e : v_agr p0.1 p0.2 (v_all p0.2) = (v_grt p0.1 p0.2).2 := by unfold v_agr; rw [v_pick_all]
 unfold s_ref05_SpanOf
 rw [e]; rfl

abbrev con_ref05_SpanOf : Con := ⟨P_ref05_SpanOf, R_ref05_SpanOf, fun x => qre_ref05_SpanOf x.1 x.2.1 x.2.2, fun x => t_ref05_SpanOf x.1 x.2.1 x.2.2⟩
theorem ok_ref05_SpanOf : ConOk Tryd.prog 84 con_ref05_SpanOf := ⟨k_ref05_SpanOf, fun x hx => ret_tf (ps := P_ref05_SpanOf) (rs := R_ref05_SpanOf) (x := x) (y := t_ref05_SpanOf x.1 x.2.1 x.2.2) e_ref05_SpanOf hC_ref05_SpanOf (tf_of (w_ref05_SpanOf_eq x.1 x.2.1 x.2.2 (fun z => z = t_ref05_SpanOf x.1 x.2.1 x.2.2)) (d_ref05_SpanOf x.1 x.2.1 x.2.2 (fun z => z = t_ref05_SpanOf x.1 x.2.1 x.2.2) (pp_ref05_SpanOf x.1 x.2.1 x.2.2 hx) (tt_ref05_SpanOf x.1 x.2.1 x.2.2 hx)))⟩
/- law05_GravitySpans -/
def C_law05_GravitySpans : Cons := [(15, [], con_law05_awake), (40, [], con_law05_fewTies), (42, [], con_ref05_CopyNet), (79, [], con_gravity_SpanOf), (80, [], con_gravity_ClashOf), (81, [], con_ref05_NetErr), (82, [], con_ref05_Clash), (22, [], con_base_Ints), (83, [], con_ref05_StationErr), (84, [], con_ref05_SpanOf)]
theorem hC_law05_GravitySpans : ConsOk Tryd.prog C_law05_GravitySpans := ConsOk.cons ok_law05_awake <| ConsOk.cons ok_law05_fewTies <| ConsOk.cons ok_ref05_CopyNet <| ConsOk.cons ok_gravity_SpanOf <| ConsOk.cons ok_gravity_ClashOf <| ConsOk.cons ok_ref05_NetErr <| ConsOk.cons ok_ref05_Clash <| ConsOk.cons ok_base_Ints <| ConsOk.cons ok_ref05_StationErr <| ConsOk.cons ok_ref05_SpanOf <| ConsOk.nil
abbrev q0_law05_GravitySpans (p0 : N5) := (cond (v_clash1 p0).2 (cond ((v_clof (s_ref05_CopyNet p0)).2 != zz0) true (!(decide ((v_clof (s_ref05_CopyNet p0)).1 = (v_clash1 p0).1)))) false)
abbrev q2_law05_GravitySpans (p0 : N5) (p1 : Int) (p2 : Int) := (cond ((v_span (s_ref05_CopyNet p0) p1 p2).2 == (s_ref05_NetErr p0)) ((v_clof (s_ref05_CopyNet p0)).2 == (s_ref05_NetErr p0)) false)
abbrev q1_law05_GravitySpans (p0 : N5) (p1 : Int) (p2 : Int) := (cond (q2_law05_GravitySpans p0 p1 p2) (((v_span (s_ref05_CopyNet p0) p1 p2).1.1 == zz0) && (((v_span (s_ref05_CopyNet p0) p1 p2).1.2 == zz0) && true)) false)
abbrev q3_law05_GravitySpans (p0 : N5) := ((!((!(q0_law05_GravitySpans p0)) && (!(v_clash1 p0).2))) || ((v_clof (s_ref05_CopyNet p0)).2 != (12 : Int)))
abbrev q4_law05_GravitySpans (p0 : N5) := ((!(v_clash1 p0).2) || ((v_clof (s_ref05_CopyNet p0)).2 != zz0))
def w_law05_GravitySpans (p0 : N5) (p1 : Int) (p2 : Int) (K : Bool → Prop) : Prop :=
  ((((!(s_law05_awake)) = true) →
 (K false)) ∧
 (((!(s_law05_awake)) = false) →
 ((((!(s_law05_fewTies p0)) = true) →
  (K true)) ∧
  (((!(s_law05_fewTies p0)) = false) →
  (((((List.length ([] : List (Int × (Int × (Int × Int))))) + (List.length p0.2)) * 32) ≤ 140737488355328) ∧
   (((((List.length ([] : List (Int × (Int × (Int × Int))))) + (List.length p0.2)) * 32) ≤ 140737488355328) ∧
   (((((s_ref05_NetErr p0) != zz0) = true) →
   (((((v_span (s_ref05_CopyNet p0) p1 p2).2 == (s_ref05_NetErr p0)) = true) →
    (((v_span (s_ref05_CopyNet p0) p1 p2).2 == (s_ref05_NetErr p0)) = ((v_span (s_ref05_CopyNet p0) p1 p2).2 == (s_ref05_NetErr p0)))) ∧
    (((((v_span (s_ref05_CopyNet p0) p1 p2).2 == (s_ref05_NetErr p0)) = true) →
    (((v_span (s_ref05_CopyNet p0) p1 p2).2 == (s_ref05_NetErr p0)) = ((v_span (s_ref05_CopyNet p0) p1 p2).2 == (s_ref05_NetErr p0)))) ∧
    ((((v_span (s_ref05_CopyNet p0) p1 p2).2 == (s_ref05_NetErr p0)) = ((v_span (s_ref05_CopyNet p0) p1 p2).2 == (s_ref05_NetErr p0))) ∧
    ((((q2_law05_GravitySpans p0 p1 p2) = true) →
    ((q2_law05_GravitySpans p0 p1 p2) = (q2_law05_GravitySpans p0 p1 p2))) ∧
    ((((q2_law05_GravitySpans p0 p1 p2) = true) →
    ((q2_law05_GravitySpans p0 p1 p2) = (q2_law05_GravitySpans p0 p1 p2))) ∧
    (((q2_law05_GravitySpans p0 p1 p2) = (q2_law05_GravitySpans p0 p1 p2)) ∧
    ((((q1_law05_GravitySpans p0 p1 p2) = true) →
    ((q1_law05_GravitySpans p0 p1 p2) = (q1_law05_GravitySpans p0 p1 p2))) ∧
    ((((q1_law05_GravitySpans p0 p1 p2) = true) →
    ((q1_law05_GravitySpans p0 p1 p2) = (q1_law05_GravitySpans p0 p1 p2))) ∧
    (((q1_law05_GravitySpans p0 p1 p2) = (q1_law05_GravitySpans p0 p1 p2)) ∧
    (K (cond (q1_law05_GravitySpans p0 p1 p2) ((((List.length (v_clof (s_ref05_CopyNet p0)).1) : Nat) : Int) == zz0) false)))))))))))) ∧
   ((((s_ref05_NetErr p0) != zz0) = false) →
   ((v_nokI p0.1 p0.2) ∧
    ((((v_clash1 p0).2 = true) →
    ((v_clash1 p0).2 = (v_clash1 p0).2)) ∧
    ((((v_clash1 p0).2 = true) →
    ((v_clash1 p0).2 = (v_clash1 p0).2)) ∧
    ((((q4_law05_GravitySpans p0) = false) →
    ((q4_law05_GravitySpans p0) = (q4_law05_GravitySpans p0))) ∧
    ((((q4_law05_GravitySpans p0) = false) →
    ((q4_law05_GravitySpans p0) = (q4_law05_GravitySpans p0))) ∧
    ((((q4_law05_GravitySpans p0) = false) →
    (lenOk (v_clof (s_ref05_CopyNet p0)).1)) ∧
    ((((q4_law05_GravitySpans p0) = false) →
    ((q4_law05_GravitySpans p0) = (q4_law05_GravitySpans p0))) ∧
    ((((v_clash1 p0).2 = true) →
    ((v_clash1 p0).2 = (v_clash1 p0).2)) ∧
    ((((v_clash1 p0).2 = true) →
    ((q4_law05_GravitySpans p0) = ((v_clof (s_ref05_CopyNet p0)).2 != zz0))) ∧
    (((v_clash1 p0).2 = (v_clash1 p0).2) ∧
    ((((q0_law05_GravitySpans p0) = false) →
    ((q0_law05_GravitySpans p0) = (q0_law05_GravitySpans p0))) ∧
    ((((q0_law05_GravitySpans p0) = false) →
    ((q0_law05_GravitySpans p0) = (q0_law05_GravitySpans p0))) ∧
    (((((!(q0_law05_GravitySpans p0)) && (!(v_clash1 p0).2)) = true) →
    (((!(q0_law05_GravitySpans p0)) && (!(v_clash1 p0).2)) = ((!(q0_law05_GravitySpans p0)) && (!(v_clash1 p0).2)))) ∧
    (((((!(q0_law05_GravitySpans p0)) && (!(v_clash1 p0).2)) = true) →
    (((!(q0_law05_GravitySpans p0)) && (!(v_clash1 p0).2)) = ((!(q0_law05_GravitySpans p0)) && (!(v_clash1 p0).2)))) ∧
    ((((q3_law05_GravitySpans p0) = false) →
    ((q3_law05_GravitySpans p0) = (q3_law05_GravitySpans p0))) ∧
    ((((q3_law05_GravitySpans p0) = false) →
    ((q3_law05_GravitySpans p0) = (q3_law05_GravitySpans p0))) ∧
    (((((!(q0_law05_GravitySpans p0)) && (!(v_clash1 p0).2)) = true) →
    (((!(q0_law05_GravitySpans p0)) && (!(v_clash1 p0).2)) = ((!(q0_law05_GravitySpans p0)) && (!(v_clash1 p0).2)))) ∧
    (((((!(q0_law05_GravitySpans p0)) && (!(v_clash1 p0).2)) = true) →
    ((q3_law05_GravitySpans p0) = ((v_clof (s_ref05_CopyNet p0)).2 != (12 : Int)))) ∧
    ((((q0_law05_GravitySpans p0) = false) →
    ((q0_law05_GravitySpans p0) = (q0_law05_GravitySpans p0))) ∧
    ((((q0_law05_GravitySpans p0) = false) →
    (((!(q0_law05_GravitySpans p0)) && (!(v_clash1 p0).2)) = (!(v_clash1 p0).2))) ∧
    (((q0_law05_GravitySpans p0) = (q0_law05_GravitySpans p0)) ∧
    ((((cond (q0_law05_GravitySpans p0) true (cond (!(v_clash1 p0).2) (cond ((v_clof (s_ref05_CopyNet p0)).2 != (12 : Int)) true ((((List.length (v_clof (s_ref05_CopyNet p0)).1) : Nat) : Int) != zz0)) false)) = true) →
    (K false)) ∧
    (((cond (q0_law05_GravitySpans p0) true (cond (!(v_clash1 p0).2) (cond ((v_clof (s_ref05_CopyNet p0)).2 != (12 : Int)) true ((((List.length (v_clof (s_ref05_CopyNet p0)).1) : Nat) : Int) != zz0)) false)) = false) →
    (((((s_ref05_StationErr p0 p1) != zz0) = false) →
     (((s_ref05_StationErr p0 p1) != zz0) = ((s_ref05_StationErr p0 p1) != zz0))) ∧
     (((((s_ref05_StationErr p0 p1) != zz0) = false) →
     (((s_ref05_StationErr p0 p1) != zz0) = ((s_ref05_StationErr p0 p1) != zz0))) ∧
     (((((s_ref05_StationErr p0 p1) != zz0) = false) →
     (((s_ref05_StationErr p0 p1) != zz0) = ((s_ref05_StationErr p0 p1) != zz0))) ∧
     ((((s_ref05_StationErr p0 p1) != zz0) = ((s_ref05_StationErr p0 p1) != zz0)) ∧
     ((((cond ((s_ref05_StationErr p0 p1) != zz0) true ((s_ref05_StationErr p0 p2) != zz0)) = true) →
     (((((v_span (s_ref05_CopyNet p0) p1 p2).2 == (6 : Int)) = true) →
      (((v_span (s_ref05_CopyNet p0) p1 p2).2 == (6 : Int)) = ((v_span (s_ref05_CopyNet p0) p1 p2).2 == (6 : Int)))) ∧
      (((((v_span (s_ref05_CopyNet p0) p1 p2).2 == (6 : Int)) = true) →
      (((v_span (s_ref05_CopyNet p0) p1 p2).2 == (6 : Int)) = ((v_span (s_ref05_CopyNet p0) p1 p2).2 == (6 : Int)))) ∧
      ((((v_span (s_ref05_CopyNet p0) p1 p2).2 == (6 : Int)) = ((v_span (s_ref05_CopyNet p0) p1 p2).2 == (6 : Int))) ∧
      (K (cond ((v_span (s_ref05_CopyNet p0) p1 p2).2 == (6 : Int)) (((v_span (s_ref05_CopyNet p0) p1 p2).1.1 == zz0) && (((v_span (s_ref05_CopyNet p0) p1 p2).1.2 == zz0) && true)) false)))))) ∧
     (((cond ((s_ref05_StationErr p0 p1) != zz0) true ((s_ref05_StationErr p0 p2) != zz0)) = false) →
     ((v_nokI p0.1 p0.2) ∧
      ((zz0 ≤ p1) ∧
      ((p1 < p0.1) ∧
      ((zz0 ≤ p2) ∧
      ((p2 < p0.1) ∧
      (((((v_span (s_ref05_CopyNet p0) p1 p2).2 == (v_rspan p0 p1 p2).2) = true) →
      (((v_span (s_ref05_CopyNet p0) p1 p2).2 == (v_rspan p0 p1 p2).2) = ((v_span (s_ref05_CopyNet p0) p1 p2).2 == (v_rspan p0 p1 p2).2))) ∧
      (((((v_span (s_ref05_CopyNet p0) p1 p2).2 == (v_rspan p0 p1 p2).2) = true) →
      (((v_span (s_ref05_CopyNet p0) p1 p2).2 == (v_rspan p0 p1 p2).2) = ((v_span (s_ref05_CopyNet p0) p1 p2).2 == (v_rspan p0 p1 p2).2))) ∧
      ((((v_span (s_ref05_CopyNet p0) p1 p2).2 == (v_rspan p0 p1 p2).2) = ((v_span (s_ref05_CopyNet p0) p1 p2).2 == (v_rspan p0 p1 p2).2)) ∧
      (K (cond ((v_span (s_ref05_CopyNet p0) p1 p2).2 == (v_rspan p0 p1 p2).2) (((v_span (s_ref05_CopyNet p0) p1 p2).1.1 == (v_rspan p0 p1 p2).1.1) && (((v_span (s_ref05_CopyNet p0) p1 p2).1.2 == (v_rspan p0 p1 p2).1.2) && true)) false)))))))))))))))))))))))))))))))))))))))))))))))
set_option maxHeartbeats 4000000 in
theorem w_law05_GravitySpans_eq (p0 : N5) (p1 : Int) (p2 : Int) (K : Bool → Prop) : tfn F_law05_GravitySpans A_law05_GravitySpans C_law05_GravitySpans P_law05_GravitySpans R_law05_GravitySpans (p0, p1, p2) K = w_law05_GravitySpans p0 p1 p2 K := by kernel_rfl
def s_law05_GravitySpans (p0 : N5) (p1 : Int) (p2 : Int) : Bool :=
 (cond (!(s_law05_fewTies p0)) true
  (cond ((s_ref05_NetErr p0) != (0 : Int)) (cond (cond (cond ((v_span (s_ref05_CopyNet p0) p1 p2).2 == (s_ref05_NetErr p0)) ((v_clof (s_ref05_CopyNet p0)).2 == (s_ref05_NetErr p0)) false) (((v_span (s_ref05_CopyNet p0) p1 p2).1.1 == (0 : Int)) && (((v_span (s_ref05_CopyNet p0) p1 p2).1.2 == (0 : Int)) && true)) false) ((((List.length (v_clof (s_ref05_CopyNet p0)).1) : Nat) : Int) == (0 : Int)) false)
  (cond (cond (cond (v_clash1 p0).2 (cond ((v_clof (s_ref05_CopyNet p0)).2 != (0 : Int)) true (!(decide ((v_clof (s_ref05_CopyNet p0)).1 = (v_clash1 p0).1)))) false) true (cond (!(v_clash1 p0).2) (cond ((v_clof (s_ref05_CopyNet p0)).2 != (12 : Int)) true ((((List.length (v_clof (s_ref05_CopyNet p0)).1) : Nat) : Int) != (0 : Int))) false)) false
  (cond (cond ((s_ref05_StationErr p0 p1) != (0 : Int)) true ((s_ref05_StationErr p0 p2) != (0 : Int))) (cond ((v_span (s_ref05_CopyNet p0) p1 p2).2 == (6 : Int)) (((v_span (s_ref05_CopyNet p0) p1 p2).1.1 == (0 : Int)) && (((v_span (s_ref05_CopyNet p0) p1 p2).1.2 == (0 : Int)) && true)) false)
  (cond ((v_span (s_ref05_CopyNet p0) p1 p2).2 == (v_rspan p0 p1 p2).2) (((v_span (s_ref05_CopyNet p0) p1 p2).1.1 == (v_rspan p0 p1 p2).1.1) && (((v_span (s_ref05_CopyNet p0) p1 p2).1.2 == (v_rspan p0 p1 p2).1.2) && true)) false)))))
abbrev pre_law05_GravitySpans (p0 : N5) (p1 : Int) (p2 : Int) : List Prop := [(((!(s_law05_fewTies p0)) = false) → ((((List.length ([] : List (Int × (Int × (Int × Int))))) + (List.length p0.2)) * 32) ≤ 140737488355328)),
  (((!(s_law05_fewTies p0)) = false) → ((((s_ref05_NetErr p0) != (0 : Int)) = false) → (v_nokI p0.1 p0.2))),
  (((!(s_law05_fewTies p0)) = false) → ((((s_ref05_NetErr p0) != (0 : Int)) = false) → ((((!(v_clash1 p0).2) || ((v_clof (s_ref05_CopyNet p0)).2 != (0 : Int))) = false) → (lenOk (v_clof (s_ref05_CopyNet p0)).1)))),
  (((!(s_law05_fewTies p0)) = false) → ((((s_ref05_NetErr p0) != (0 : Int)) = false) → (((v_clash1 p0).2 = true) → (((!(v_clash1 p0).2) || ((v_clof (s_ref05_CopyNet p0)).2 != (0 : Int))) = ((v_clof (s_ref05_CopyNet p0)).2 != (0 : Int)))))),
  (((!(s_law05_fewTies p0)) = false) → ((((s_ref05_NetErr p0) != (0 : Int)) = false) → ((((!(cond (v_clash1 p0).2 (cond ((v_clof (s_ref05_CopyNet p0)).2 != (0 : Int)) true (!(decide ((v_clof (s_ref05_CopyNet p0)).1 = (v_clash1 p0).1)))) false)) && (!(v_clash1 p0).2)) = true) → (((!((!(cond (v_clash1 p0).2 (cond ((v_clof (s_ref05_CopyNet p0)).2 != (0 : Int)) true (!(decide ((v_clof (s_ref05_CopyNet p0)).1 = (v_clash1 p0).1)))) false)) && (!(v_clash1 p0).2))) || ((v_clof (s_ref05_CopyNet p0)).2 != (12 : Int))) = ((v_clof (s_ref05_CopyNet p0)).2 != (12 : Int)))))),
  (((!(s_law05_fewTies p0)) = false) → ((((s_ref05_NetErr p0) != (0 : Int)) = false) → (((cond (v_clash1 p0).2 (cond ((v_clof (s_ref05_CopyNet p0)).2 != (0 : Int)) true (!(decide ((v_clof (s_ref05_CopyNet p0)).1 = (v_clash1 p0).1)))) false) = false) → (((!(cond (v_clash1 p0).2 (cond ((v_clof (s_ref05_CopyNet p0)).2 != (0 : Int)) true (!(decide ((v_clof (s_ref05_CopyNet p0)).1 = (v_clash1 p0).1)))) false)) && (!(v_clash1 p0).2)) = (!(v_clash1 p0).2))))),
  (((!(s_law05_fewTies p0)) = false) → ((((s_ref05_NetErr p0) != (0 : Int)) = false) → (((cond (cond (v_clash1 p0).2 (cond ((v_clof (s_ref05_CopyNet p0)).2 != (0 : Int)) true (!(decide ((v_clof (s_ref05_CopyNet p0)).1 = (v_clash1 p0).1)))) false) true (cond (!(v_clash1 p0).2) (cond ((v_clof (s_ref05_CopyNet p0)).2 != (12 : Int)) true ((((List.length (v_clof (s_ref05_CopyNet p0)).1) : Nat) : Int) != (0 : Int))) false)) = false) → (((cond ((s_ref05_StationErr p0 p1) != (0 : Int)) true ((s_ref05_StationErr p0 p2) != (0 : Int))) = false) → (v_nokI p0.1 p0.2))))),
  (((!(s_law05_fewTies p0)) = false) → ((((s_ref05_NetErr p0) != (0 : Int)) = false) → (((cond (cond (v_clash1 p0).2 (cond ((v_clof (s_ref05_CopyNet p0)).2 != (0 : Int)) true (!(decide ((v_clof (s_ref05_CopyNet p0)).1 = (v_clash1 p0).1)))) false) true (cond (!(v_clash1 p0).2) (cond ((v_clof (s_ref05_CopyNet p0)).2 != (12 : Int)) true ((((List.length (v_clof (s_ref05_CopyNet p0)).1) : Nat) : Int) != (0 : Int))) false)) = false) → (((cond ((s_ref05_StationErr p0 p1) != (0 : Int)) true ((s_ref05_StationErr p0 p2) != (0 : Int))) = false) → ((0 : Int) ≤ p1))))),
  (((!(s_law05_fewTies p0)) = false) → ((((s_ref05_NetErr p0) != (0 : Int)) = false) → (((cond (cond (v_clash1 p0).2 (cond ((v_clof (s_ref05_CopyNet p0)).2 != (0 : Int)) true (!(decide ((v_clof (s_ref05_CopyNet p0)).1 = (v_clash1 p0).1)))) false) true (cond (!(v_clash1 p0).2) (cond ((v_clof (s_ref05_CopyNet p0)).2 != (12 : Int)) true ((((List.length (v_clof (s_ref05_CopyNet p0)).1) : Nat) : Int) != (0 : Int))) false)) = false) → (((cond ((s_ref05_StationErr p0 p1) != (0 : Int)) true ((s_ref05_StationErr p0 p2) != (0 : Int))) = false) → (p1 < p0.1))))),
  (((!(s_law05_fewTies p0)) = false) → ((((s_ref05_NetErr p0) != (0 : Int)) = false) → (((cond (cond (v_clash1 p0).2 (cond ((v_clof (s_ref05_CopyNet p0)).2 != (0 : Int)) true (!(decide ((v_clof (s_ref05_CopyNet p0)).1 = (v_clash1 p0).1)))) false) true (cond (!(v_clash1 p0).2) (cond ((v_clof (s_ref05_CopyNet p0)).2 != (12 : Int)) true ((((List.length (v_clof (s_ref05_CopyNet p0)).1) : Nat) : Int) != (0 : Int))) false)) = false) → (((cond ((s_ref05_StationErr p0 p1) != (0 : Int)) true ((s_ref05_StationErr p0 p2) != (0 : Int))) = false) → ((0 : Int) ≤ p2))))),
  (((!(s_law05_fewTies p0)) = false) → ((((s_ref05_NetErr p0) != (0 : Int)) = false) → (((cond (cond (v_clash1 p0).2 (cond ((v_clof (s_ref05_CopyNet p0)).2 != (0 : Int)) true (!(decide ((v_clof (s_ref05_CopyNet p0)).1 = (v_clash1 p0).1)))) false) true (cond (!(v_clash1 p0).2) (cond ((v_clof (s_ref05_CopyNet p0)).2 != (12 : Int)) true ((((List.length (v_clof (s_ref05_CopyNet p0)).1) : Nat) : Int) != (0 : Int))) false)) = false) → (((cond ((s_ref05_StationErr p0 p1) != (0 : Int)) true ((s_ref05_StationErr p0 p2) != (0 : Int))) = false) → (p2 < p0.1)))))]
set_option maxHeartbeats 4000000 in
theorem d_law05_GravitySpans (p0 : N5) (p1 : Int) (p2 : Int) (K : Bool → Prop) (hp : ∀ p ∈ pre_law05_GravitySpans p0 p1 p2, p) (h : K (s_law05_GravitySpans p0 p1 p2)) : w_law05_GravitySpans p0 p1 p2 K := by
 unfold w_law05_GravitySpans
 unfold s_law05_GravitySpans at h
 obtain ⟨hp0, hp1, hp2, hp3, hp4, hp5, hp6, hp7, hp8, hp9, hp10, _⟩ := conj_of hp
 exact ⟨nof, fun _ => (br' h (fun e0 h => h)
  (fun e0 h => ⟨(hp0 e0), (hp0 e0), (br' h (fun e1 h => ⟨rf, rf, rfl, rf, rf, rfl, rf, rf, rfl, h⟩)
  (fun e1 h => ⟨(hp1 e0 e1), rf, rf, rf, rf, (hp2 e0 e1), rf, rf, (hp3 e0 e1), rfl, rf, rf, rf, rf, rf, rf, rf, (hp4 e0 e1), rf, (hp5 e0 e1), rfl, (br' h (fun e2 h => h)
  (fun e2 h => ⟨rf, rf, rf, rfl, (br' h (fun e3 h => ⟨rf, rf, rfl, h⟩)
  (fun e3 h => ⟨(hp6 e0 e1 e2 e3), (hp7 e0 e1 e2 e3), (hp8 e0 e1 e2 e3), (hp9 e0 e1 e2 e3), (hp10 e0 e1 e2 e3), rf, rf, rfl, h⟩))⟩))⟩))⟩))⟩
abbrev con_law05_GravitySpans : Con := ⟨P_law05_GravitySpans, R_law05_GravitySpans, fun x => pre_law05_GravitySpans x.1 x.2.1 x.2.2, fun x => s_law05_GravitySpans x.1 x.2.1 x.2.2⟩
theorem ok_law05_GravitySpans : ConOk Tryd.prog 13 con_law05_GravitySpans := ⟨k_law05_GravitySpans, fun x hx => ret_tf (ps := P_law05_GravitySpans) (rs := R_law05_GravitySpans) (x := x) (y := s_law05_GravitySpans x.1 x.2.1 x.2.2) e_law05_GravitySpans hC_law05_GravitySpans (tf_of (w_law05_GravitySpans_eq x.1 x.2.1 x.2.2 (fun z => z = s_law05_GravitySpans x.1 x.2.1 x.2.2)) (d_law05_GravitySpans x.1 x.2.1 x.2.2 (fun z => z = s_law05_GravitySpans x.1 x.2.1 x.2.2) hx rfl))⟩
end Go.Proofs.YtcecdmdnfmgnfaaDoor
