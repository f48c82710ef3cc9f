import Derived.Test.YtfapfcjioianbaaDoorLayB
import Derived.Test.YtfapfcjioianbaaDoorAwTTopGravityTruth
import Derived.KernelRfl
namespace Go.Proofs.YtfapfcjioianbaaDoor
open Go Go.Mx
set_option maxRecDepth 100000
set_option maxHeartbeats 4000000
/- mathbits_Mul32 -/
def C_Z1b:Cons := []
theorem hC_Z1b:ConsOk Tryd.prog C_Z1b := ConsOk.nil
def w_Z1b (p0:Int) (p1:Int) (K:(Int×Int)→Prop):Prop :=
  (K ((Go.IntKind.wrap .u32 (v_shr .u64 (Go.IntKind.wrap .u64 ((Go.IntKind.wrap .u64 p0) * (Go.IntKind.wrap .u64 p1))) (32:Int))),(Go.IntKind.wrap .u32 (Go.IntKind.wrap .u64 ((Go.IntKind.wrap .u64 p0) * (Go.IntKind.wrap .u64 p1))))))
theorem w_Z1b_eq (p0:Int) (p1:Int) (K:(Int×Int)→Prop):tfn F_Z1b A_Z1b C_Z1b P_Z1b R_Z1b (p0,p1) K = w_Z1b p0 p1 K := by kernel_rfl
def s_Z1b (p0:Int) (p1:Int):(Int×Int) :=
  ((Go.IntKind.wrap .u32 (v_shr .u64 (Go.IntKind.wrap .u64 ((Go.IntKind.wrap .u64 p0) * (Go.IntKind.wrap .u64 p1))) (32:Int))),(Go.IntKind.wrap .u32 (Go.IntKind.wrap .u64 ((Go.IntKind.wrap .u64 p0) * (Go.IntKind.wrap .u64 p1)))))
abbrev pre_Z1b (p0:Int) (p1:Int):List Prop := []
theorem d_Z1b (p0:Int) (p1:Int) (K:(Int×Int)→Prop) (hp:∀ p∈pre_Z1b p0 p1,p) (h:K (s_Z1b p0 p1)):w_Z1b p0 p1 K := by
  unfold w_Z1b
  unfold s_Z1b at h
  exact h
abbrev con_Z1b:Con := ⟨P_Z1b,R_Z1b,fun x => pre_Z1b x.1 x.2,fun x => s_Z1b x.1 x.2⟩
theorem ok_Z1b:ConOk Tryd.prog 56 con_Z1b := ⟨k_Z1b,fun x hx => ret_tf (ps := P_Z1b) (rs := R_Z1b) (x := x) (y := s_Z1b x.1 x.2) e_Z1b hC_Z1b (tf_of (w_Z1b_eq x.1 x.2 (fun z => z = s_Z1b x.1 x.2)) (d_Z1b x.1 x.2 (fun z => z = s_Z1b x.1 x.2) hx rfl))⟩
/- mathbits_Mul64 -/
def C_Z18:Cons := []
theorem hC_Z18:ConsOk Tryd.prog C_Z18 := ConsOk.nil
def w_Z18 (p0:Int) (p1:Int) (K:(Int×Int)→Prop):Prop :=
  (K ((Go.IntKind.wrap .u64 ((Go.IntKind.wrap .u64 ((Go.IntKind.wrap .u64 ((v_shr .u64 p0 (32:Int)) * (v_shr .u64 p1 (32:Int)))) + (v_shr .u64 (Go.IntKind.wrap .u64 ((Go.IntKind.wrap .u64 ((v_shr .u64 p0 (32:Int)) * (v_and .u64 p1 (4294967295:Int)))) + (v_shr .u64 (Go.IntKind.wrap .u64 ((v_and .u64 p0 (4294967295:Int)) * (v_and .u64 p1 (4294967295:Int)))) (32:Int)))) (32:Int)))) + (v_shr .u64 (Go.IntKind.wrap .u64 ((v_and .u64 (Go.IntKind.wrap .u64 ((Go.IntKind.wrap .u64 ((v_shr .u64 p0 (32:Int)) * (v_and .u64 p1 (4294967295:Int)))) + (v_shr .u64 (Go.IntKind.wrap .u64 ((v_and .u64 p0 (4294967295:Int)) * (v_and .u64 p1 (4294967295:Int)))) (32:Int)))) (4294967295:Int)) + (Go.IntKind.wrap .u64 ((v_and .u64 p0 (4294967295:Int)) * (v_shr .u64 p1 (32:Int)))))) (32:Int)))),(Go.IntKind.wrap .u64 (p0 * p1))))
theorem w_Z18_eq (p0:Int) (p1:Int) (K:(Int×Int)→Prop):tfn F_Z18 A_Z18 C_Z18 P_Z18 R_Z18 (p0,p1) K = w_Z18 p0 p1 K := by kernel_rfl
def s_Z18 (p0:Int) (p1:Int):(Int×Int) :=
  ((Go.IntKind.wrap .u64 ((Go.IntKind.wrap .u64 ((Go.IntKind.wrap .u64 ((v_shr .u64 p0 (32:Int)) * (v_shr .u64 p1 (32:Int)))) + (v_shr .u64 (Go.IntKind.wrap .u64 ((Go.IntKind.wrap .u64 ((v_shr .u64 p0 (32:Int)) * (v_and .u64 p1 (4294967295:Int)))) + (v_shr .u64 (Go.IntKind.wrap .u64 ((v_and .u64 p0 (4294967295:Int)) * (v_and .u64 p1 (4294967295:Int)))) (32:Int)))) (32:Int)))) + (v_shr .u64 (Go.IntKind.wrap .u64 ((v_and .u64 (Go.IntKind.wrap .u64 ((Go.IntKind.wrap .u64 ((v_shr .u64 p0 (32:Int)) * (v_and .u64 p1 (4294967295:Int)))) + (v_shr .u64 (Go.IntKind.wrap .u64 ((v_and .u64 p0 (4294967295:Int)) * (v_and .u64 p1 (4294967295:Int)))) (32:Int)))) (4294967295:Int)) + (Go.IntKind.wrap .u64 ((v_and .u64 p0 (4294967295:Int)) * (v_shr .u64 p1 (32:Int)))))) (32:Int)))),(Go.IntKind.wrap .u64 (p0 * p1)))
abbrev pre_Z18 (p0:Int) (p1:Int):List Prop := []
theorem d_Z18 (p0:Int) (p1:Int) (K:(Int×Int)→Prop) (hp:∀ p∈pre_Z18 p0 p1,p) (h:K (s_Z18 p0 p1)):w_Z18 p0 p1 K := by
  unfold w_Z18
  unfold s_Z18 at h
  exact h
abbrev t_Z18 (p0 p1:Int):Int×Int := (p0 * p1 / 18446744073709551616,p0 * p1 % 18446744073709551616)
abbrev qre_Z18 (p0 p1:Int):List Prop := [0≤p0∧p0 < 18446744073709551616,0≤p1∧p1 < 18446744073709551616]
theorem pp_Z18 (p0 p1:Int) (hq:∀ p∈qre_Z18 p0 p1,p):∀ p∈pre_Z18 p0 p1,p := by
  intro p hp; simp at hp
theorem tt_Z18 (p0 p1:Int) (hq:∀ p∈qre_Z18 p0 p1,p):s_Z18 p0 p1 = t_Z18 p0 p1 := by
  obtain ⟨h0,h1,_⟩ := conj_of hq
  obtain ⟨x,rfl⟩ : ∃ x:Nat,p0 = x := ⟨p0.toNat,by omega⟩
  obtain ⟨y,rfl⟩ : ∃ y:Nat,p1 = y := ⟨p1.toNat,by omega⟩
  obtain ⟨e1,e2⟩ := u_mul64 x y (by omega) (by omega)
  exact Prod.ext e1 e2

abbrev con_Z18:Con := ⟨P_Z18,R_Z18,fun x => qre_Z18 x.1 x.2,fun x => t_Z18 x.1 x.2⟩
theorem ok_Z18:ConOk Tryd.prog 57 con_Z18 := ⟨k_Z18,fun x hx => ret_tf (ps := P_Z18) (rs := R_Z18) (x := x) (y := t_Z18 x.1 x.2) e_Z18 hC_Z18 (tf_of (w_Z18_eq x.1 x.2 (fun z => z = t_Z18 x.1 x.2)) (d_Z18 x.1 x.2 (fun z => z = t_Z18 x.1 x.2) (pp_Z18 x.1 x.2 hx) (tt_Z18 x.1 x.2 hx)))⟩
/- mathbits_Mul -/
def C_Z10:Cons := [(56,[],con_Z1b),(57,[],con_Z18)]
theorem hC_Z10:ConsOk Tryd.prog C_Z10 := ConsOk.cons ok_Z1b <| ConsOk.cons ok_Z18 <| ConsOk.nil
def w_Z10 (p0:Int) (p1:Int) (K:(Int×Int)→Prop):Prop :=
  (((false = true) →
  (K ((Go.IntKind.wrap .u64 (s_Z1b (Go.IntKind.wrap .u32 p0) (Go.IntKind.wrap .u32 p1)).1),(Go.IntKind.wrap .u64 (s_Z1b (Go.IntKind.wrap .u32 p0) (Go.IntKind.wrap .u32 p1)).2)))) ∧
  ((false = false) →
  ((((0:Int)≤p0) ∧
    (p0 < (18446744073709551616:Int))) ∧
    ((((0:Int)≤p1) ∧
    (p1 < (18446744073709551616:Int))) ∧
    (K (((p0 * p1) / (18446744073709551616:Int)),((p0 * p1) % (18446744073709551616:Int))))))))
theorem w_Z10_eq (p0:Int) (p1:Int) (K:(Int×Int)→Prop):tfn F_Z10 A_Z10 C_Z10 P_Z10 R_Z10 (p0,p1) K = w_Z10 p0 p1 K := by kernel_rfl
def s_Z10 (p0:Int) (p1:Int):(Int×Int) :=
  (((p0 * p1) / (18446744073709551616:Int)),((p0 * p1) % (18446744073709551616:Int)))
abbrev pre_Z10 (p0:Int) (p1:Int):List Prop := [(((0:Int)≤p0)∧(p0 < (18446744073709551616:Int))),
    (((0:Int)≤p1)∧(p1 < (18446744073709551616:Int)))]
theorem d_Z10 (p0:Int) (p1:Int) (K:(Int×Int)→Prop) (hp:∀ p∈pre_Z10 p0 p1,p) (h:K (s_Z10 p0 p1)):w_Z10 p0 p1 K := by
  unfold w_Z10
  unfold s_Z10 at h
  obtain ⟨hp0,hp1,_⟩ := conj_of hp
  exact ⟨fun e => Bool.noConfusion (show false = true from e),fun _ => ⟨(hp0),⟨(hp1),h⟩⟩⟩
abbrev t_Z10 (p0 p1:Int):Int×Int := (p0 * p1 / 18446744073709551616,p0 * p1 % 18446744073709551616)
abbrev qre_Z10 (p0 p1:Int):List Prop := [0≤p0∧p0 < 18446744073709551616,0≤p1∧p1 < 18446744073709551616]
theorem pp_Z10 (p0 p1:Int) (hq:∀ p∈qre_Z10 p0 p1,p):∀ p∈pre_Z10 p0 p1,p := by
  exact hq
theorem tt_Z10 (p0 p1:Int) (hq:∀ p∈qre_Z10 p0 p1,p):s_Z10 p0 p1 = t_Z10 p0 p1 := by
  rfl

abbrev con_Z10:Con := ⟨P_Z10,R_Z10,fun x => qre_Z10 x.1 x.2,fun x => t_Z10 x.1 x.2⟩
theorem ok_Z10:ConOk Tryd.prog 46 con_Z10 := ⟨k_Z10,fun x hx => ret_tf (ps := P_Z10) (rs := R_Z10) (x := x) (y := t_Z10 x.1 x.2) e_Z10 hC_Z10 (tf_of (w_Z10_eq x.1 x.2 (fun z => z = t_Z10 x.1 x.2)) (d_Z10 x.1 x.2 (fun z => z = t_Z10 x.1 x.2) (pp_Z10 x.1 x.2 hx) (tt_Z10 x.1 x.2 hx)))⟩
end Go.Proofs.YtfapfcjioianbaaDoor
