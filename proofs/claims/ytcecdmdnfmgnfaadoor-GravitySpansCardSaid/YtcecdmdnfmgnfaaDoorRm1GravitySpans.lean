import Derived.Test.YtcecdmdnfmgnfaaDoorLayB
import Derived.Test.YtcecdmdnfmgnfaaDoorAwGGravitySpans
import Derived.KernelRfl
namespace Go.Proofs.YtcecdmdnfmgnfaaDoor
open Go Go.Mx
set_option maxRecDepth 100000
/-- Ranges, and ties: from, to, difference. -/
abbrev GR : Type := Int × Int
abbrev GT : Type := Int × Int × Int × Int
/- mathbits_Mul32 -/
def C_mathbits_Mul32 : Cons := []
theorem hC_mathbits_Mul32 : ConsOk Tryd.prog C_mathbits_Mul32 := ConsOk.nil
def w_mathbits_Mul32 (p0 : Int) (p1 : Int) (K : (Int × Int) → Prop) : Prop :=
  (K ((Go.IntKind.wrap .u32 (v_shr .u64 (Go.IntKind.wrap .u64 ((Go.IntKind.wrap .u64 p0) * (Go.IntKind.wrap .u64 p1))) (32 : Int))), (Go.IntKind.wrap .u32 (Go.IntKind.wrap .u64 ((Go.IntKind.wrap .u64 p0) * (Go.IntKind.wrap .u64 p1))))))
set_option maxHeartbeats 4000000 in
theorem w_mathbits_Mul32_eq (p0 : Int) (p1 : Int) (K : (Int × Int) → Prop) : tfn F_mathbits_Mul32 A_mathbits_Mul32 C_mathbits_Mul32 P_mathbits_Mul32 R_mathbits_Mul32 (p0, p1) K = w_mathbits_Mul32 p0 p1 K := by kernel_rfl
def s_mathbits_Mul32 (p0 : Int) (p1 : Int) : (Int × Int) :=
  ((Go.IntKind.wrap .u32 (v_shr .u64 (Go.IntKind.wrap .u64 ((Go.IntKind.wrap .u64 p0) * (Go.IntKind.wrap .u64 p1))) (32 : Int))), (Go.IntKind.wrap .u32 (Go.IntKind.wrap .u64 ((Go.IntKind.wrap .u64 p0) * (Go.IntKind.wrap .u64 p1)))))
abbrev pre_mathbits_Mul32 (p0 : Int) (p1 : Int) : List Prop := []
set_option maxHeartbeats 4000000 in
theorem d_mathbits_Mul32 (p0 : Int) (p1 : Int) (K : (Int × Int) → Prop) (hp : ∀ p ∈ pre_mathbits_Mul32 p0 p1, p) (h : K (s_mathbits_Mul32 p0 p1)) : w_mathbits_Mul32 p0 p1 K := by
  unfold w_mathbits_Mul32
  unfold s_mathbits_Mul32 at h
  exact h
abbrev con_mathbits_Mul32 : Con := ⟨P_mathbits_Mul32, R_mathbits_Mul32, fun x => pre_mathbits_Mul32 x.1 x.2, fun x => s_mathbits_Mul32 x.1 x.2⟩
theorem ok_mathbits_Mul32 : ConOk Tryd.prog 137 con_mathbits_Mul32 := ⟨k_mathbits_Mul32, fun x hx => ret_tf (ps := P_mathbits_Mul32) (rs := R_mathbits_Mul32) (x := x) (y := s_mathbits_Mul32 x.1 x.2) e_mathbits_Mul32 hC_mathbits_Mul32 (tf_of (w_mathbits_Mul32_eq x.1 x.2 (fun z => z = s_mathbits_Mul32 x.1 x.2)) (d_mathbits_Mul32 x.1 x.2 (fun z => z = s_mathbits_Mul32 x.1 x.2) hx rfl))⟩
/- mathbits_Mul64 -/
def C_mathbits_Mul64 : Cons := []
theorem hC_mathbits_Mul64 : ConsOk Tryd.prog C_mathbits_Mul64 := ConsOk.nil
def w_mathbits_Mul64 (p0 : Int) (p1 : Int) (K : (Int × Int) → Prop) : Prop :=
  (K ((Go.IntKind.wrap .u64 ((Go.IntKind.wrap .u64 ((Go.IntKind.wrap .u64 ((v_shr .u64 p0 (32 : Int)) * (v_shr .u64 p1 (32 : Int)))) + (v_shr .u64 (Go.IntKind.wrap .u64 ((Go.IntKind.wrap .u64 ((v_shr .u64 p0 (32 : Int)) * (v_and .u64 p1 (4294967295 : Int)))) + (v_shr .u64 (Go.IntKind.wrap .u64 ((v_and .u64 p0 (4294967295 : Int)) * (v_and .u64 p1 (4294967295 : Int)))) (32 : Int)))) (32 : Int)))) + (v_shr .u64 (Go.IntKind.wrap .u64 ((v_and .u64 (Go.IntKind.wrap .u64 ((Go.IntKind.wrap .u64 ((v_shr .u64 p0 (32 : Int)) * (v_and .u64 p1 (4294967295 : Int)))) + (v_shr .u64 (Go.IntKind.wrap .u64 ((v_and .u64 p0 (4294967295 : Int)) * (v_and .u64 p1 (4294967295 : Int)))) (32 : Int)))) (4294967295 : Int)) + (Go.IntKind.wrap .u64 ((v_and .u64 p0 (4294967295 : Int)) * (v_shr .u64 p1 (32 : Int)))))) (32 : Int)))), (Go.IntKind.wrap .u64 (p0 * p1))))
set_option maxHeartbeats 4000000 in
theorem w_mathbits_Mul64_eq (p0 : Int) (p1 : Int) (K : (Int × Int) → Prop) : tfn F_mathbits_Mul64 A_mathbits_Mul64 C_mathbits_Mul64 P_mathbits_Mul64 R_mathbits_Mul64 (p0, p1) K = w_mathbits_Mul64 p0 p1 K := by kernel_rfl
def s_mathbits_Mul64 (p0 : Int) (p1 : Int) : (Int × Int) :=
  ((Go.IntKind.wrap .u64 ((Go.IntKind.wrap .u64 ((Go.IntKind.wrap .u64 ((v_shr .u64 p0 (32 : Int)) * (v_shr .u64 p1 (32 : Int)))) + (v_shr .u64 (Go.IntKind.wrap .u64 ((Go.IntKind.wrap .u64 ((v_shr .u64 p0 (32 : Int)) * (v_and .u64 p1 (4294967295 : Int)))) + (v_shr .u64 (Go.IntKind.wrap .u64 ((v_and .u64 p0 (4294967295 : Int)) * (v_and .u64 p1 (4294967295 : Int)))) (32 : Int)))) (32 : Int)))) + (v_shr .u64 (Go.IntKind.wrap .u64 ((v_and .u64 (Go.IntKind.wrap .u64 ((Go.IntKind.wrap .u64 ((v_shr .u64 p0 (32 : Int)) * (v_and .u64 p1 (4294967295 : Int)))) + (v_shr .u64 (Go.IntKind.wrap .u64 ((v_and .u64 p0 (4294967295 : Int)) * (v_and .u64 p1 (4294967295 : Int)))) (32 : Int)))) (4294967295 : Int)) + (Go.IntKind.wrap .u64 ((v_and .u64 p0 (4294967295 : Int)) * (v_shr .u64 p1 (32 : Int)))))) (32 : Int)))), (Go.IntKind.wrap .u64 (p0 * p1)))
abbrev pre_mathbits_Mul64 (p0 : Int) (p1 : Int) : List Prop := []
set_option maxHeartbeats 4000000 in
theorem d_mathbits_Mul64 (p0 : Int) (p1 : Int) (K : (Int × Int) → Prop) (hp : ∀ p ∈ pre_mathbits_Mul64 p0 p1, p) (h : K (s_mathbits_Mul64 p0 p1)) : w_mathbits_Mul64 p0 p1 K := by
  unfold w_mathbits_Mul64
  unfold s_mathbits_Mul64 at h
  exact h
abbrev t_mathbits_Mul64 (p0 p1 : Int) : Int × Int := (p0 * p1 / 18446744073709551616, p0 * p1 % 18446744073709551616)
abbrev qre_mathbits_Mul64 (p0 p1 : Int) : List Prop := [0 ≤ p0 ∧ p0 < 18446744073709551616, 0 ≤ p1 ∧ p1 < 18446744073709551616]
theorem pp_mathbits_Mul64 (p0 p1 : Int) (hq : ∀ p ∈ qre_mathbits_Mul64 p0 p1, p) : ∀ p ∈ pre_mathbits_Mul64 p0 p1, p := by
  intro p hp; simp at hp
theorem tt_mathbits_Mul64 (p0 p1 : Int) (hq : ∀ p ∈ qre_mathbits_Mul64 p0 p1, p) : s_mathbits_Mul64 p0 p1 = t_mathbits_Mul64 p0 p1 := by
  obtain ⟨h0, h1, _⟩ := conj_of hq
  obtain ⟨x, rfl⟩ : ∃ x : Nat, p0 = x := ⟨p0.toNat, by omega⟩
  obtain ⟨y, rfl⟩ : ∃ y : Nat, p1 = y := ⟨p1.toNat, by omega⟩
  obtain ⟨e1, e2⟩ := u_mul64 x y (by omega) (by omega)
  exact Prod.ext e1 e2

abbrev con_mathbits_Mul64 : Con := ⟨P_mathbits_Mul64, R_mathbits_Mul64, fun x => qre_mathbits_Mul64 x.1 x.2, fun x => t_mathbits_Mul64 x.1 x.2⟩
theorem ok_mathbits_Mul64 : ConOk Tryd.prog 138 con_mathbits_Mul64 := ⟨k_mathbits_Mul64, fun x hx => ret_tf (ps := P_mathbits_Mul64) (rs := R_mathbits_Mul64) (x := x) (y := t_mathbits_Mul64 x.1 x.2) e_mathbits_Mul64 hC_mathbits_Mul64 (tf_of (w_mathbits_Mul64_eq x.1 x.2 (fun z => z = t_mathbits_Mul64 x.1 x.2)) (d_mathbits_Mul64 x.1 x.2 (fun z => z = t_mathbits_Mul64 x.1 x.2) (pp_mathbits_Mul64 x.1 x.2 hx) (tt_mathbits_Mul64 x.1 x.2 hx)))⟩
/- mathbits_Mul -/
def C_mathbits_Mul : Cons := [(137, [], con_mathbits_Mul32), (138, [], con_mathbits_Mul64)]
theorem hC_mathbits_Mul : ConsOk Tryd.prog C_mathbits_Mul := ConsOk.cons ok_mathbits_Mul32 <| ConsOk.cons ok_mathbits_Mul64 <| ConsOk.nil
def w_mathbits_Mul (p0 : Int) (p1 : Int) (K : (Int × Int) → Prop) : Prop :=
  (((false = true) →
  (K ((Go.IntKind.wrap .u64 (s_mathbits_Mul32 (Go.IntKind.wrap .u32 p0) (Go.IntKind.wrap .u32 p1)).1), (Go.IntKind.wrap .u64 (s_mathbits_Mul32 (Go.IntKind.wrap .u32 p0) (Go.IntKind.wrap .u32 p1)).2)))) ∧
  ((false = false) →
  ((((0 : Int) ≤ p0) ∧
    (p0 < (18446744073709551616 : Int))) ∧
    ((((0 : Int) ≤ p1) ∧
    (p1 < (18446744073709551616 : Int))) ∧
    (K (((p0 * p1) / (18446744073709551616 : Int)), ((p0 * p1) % (18446744073709551616 : Int))))))))
set_option maxHeartbeats 4000000 in
theorem w_mathbits_Mul_eq (p0 : Int) (p1 : Int) (K : (Int × Int) → Prop) : tfn F_mathbits_Mul A_mathbits_Mul C_mathbits_Mul P_mathbits_Mul R_mathbits_Mul (p0, p1) K = w_mathbits_Mul p0 p1 K := by kernel_rfl
def s_mathbits_Mul (p0 : Int) (p1 : Int) : (Int × Int) :=
  (((p0 * p1) / (18446744073709551616 : Int)), ((p0 * p1) % (18446744073709551616 : Int)))
abbrev pre_mathbits_Mul (p0 : Int) (p1 : Int) : List Prop := [(((0 : Int) ≤ p0) ∧ (p0 < (18446744073709551616 : Int))),
    (((0 : Int) ≤ p1) ∧ (p1 < (18446744073709551616 : Int)))]
set_option maxHeartbeats 4000000 in
theorem d_mathbits_Mul (p0 : Int) (p1 : Int) (K : (Int × Int) → Prop) (hp : ∀ p ∈ pre_mathbits_Mul p0 p1, p) (h : K (s_mathbits_Mul p0 p1)) : w_mathbits_Mul p0 p1 K := by
  unfold w_mathbits_Mul
  unfold s_mathbits_Mul at h
  obtain ⟨hp0, hp1, _⟩ := conj_of hp
  exact ⟨fun e => Bool.noConfusion (show false = true from e), fun _ => ⟨(hp0), ⟨(hp1), h⟩⟩⟩
abbrev t_mathbits_Mul (p0 p1 : Int) : Int × Int := (p0 * p1 / 18446744073709551616, p0 * p1 % 18446744073709551616)
abbrev qre_mathbits_Mul (p0 p1 : Int) : List Prop := [0 ≤ p0 ∧ p0 < 18446744073709551616, 0 ≤ p1 ∧ p1 < 18446744073709551616]
theorem pp_mathbits_Mul (p0 p1 : Int) (hq : ∀ p ∈ qre_mathbits_Mul p0 p1, p) : ∀ p ∈ pre_mathbits_Mul p0 p1, p := by
  exact hq
theorem tt_mathbits_Mul (p0 p1 : Int) (hq : ∀ p ∈ qre_mathbits_Mul p0 p1, p) : s_mathbits_Mul p0 p1 = t_mathbits_Mul p0 p1 := by
  rfl

abbrev con_mathbits_Mul : Con := ⟨P_mathbits_Mul, R_mathbits_Mul, fun x => qre_mathbits_Mul x.1 x.2, fun x => t_mathbits_Mul x.1 x.2⟩
theorem ok_mathbits_Mul : ConOk Tryd.prog 132 con_mathbits_Mul := ⟨k_mathbits_Mul, fun x hx => ret_tf (ps := P_mathbits_Mul) (rs := R_mathbits_Mul) (x := x) (y := t_mathbits_Mul x.1 x.2) e_mathbits_Mul hC_mathbits_Mul (tf_of (w_mathbits_Mul_eq x.1 x.2 (fun z => z = t_mathbits_Mul x.1 x.2)) (d_mathbits_Mul x.1 x.2 (fun z => z = t_mathbits_Mul x.1 x.2) (pp_mathbits_Mul x.1 x.2 hx) (tt_mathbits_Mul x.1 x.2 hx)))⟩
end Go.Proofs.YtcecdmdnfmgnfaaDoor
