/- MagnetBases: the given statement is proved: at every input the law returns true, and the input reads as it did. No condition. -/
import Derived.Test.YtdkhhafmidokmaaGreatWalkMagnetBases
import Derived.Test.YtdkhhafmidokmaaGreatLayB
import Derived.Test.YtdkhhafmidokmaaGreatMxU
import Derived.Test.YtdkhhafmidokmaaGreatRows
import Derived.ProofKit
namespace Go.Proofs.YtdkhhafmidokmaaGreat
open Go Go.Mx
set_option maxRecDepth 100000
theorem v_cor_len (b:Int×List (Int×Int)):∀ (l:List (Int×Int×Int×Int×Int)) (o:gC),(v_cor b l o).1.length≤o.length + l.length
  | [],o => by unfold v_cor; simp
  | x :: r,o => by
    unfold v_cor
    cases v_iw b x.1
    · rw [cond_false]; simp
    · have := v_cor_len b r (o ++ [v_crk b x])
      rw [List.length_append,List.length_singleton] at this
      rw [cond_true,List.length_cons]; omega
/-- The plain law. -/
theorem plain_Z1 (p0:Int×List (Int×Int)) (p1:Int) (p2:List (Int×Int×Int×Int×Int)) (_:okPs P_Z1 (p0,p1,p2)):(∀ p∈pre_Z1 p0 p1 p2,p)∧s_Z1 p0 p1 p2 = true := by
  unfold pre_Z1 s_Z1
  generalize hq:(p0.1,([]:List (Int×Int)) ++ p0.2) = q
  generalize hm:([]:List (Int×Int×Int×Int×Int)) ++ p2 = m
  have hqe:q = p0 := hq.symm
  have hme:m = p2 := hm.symm
  have hA:v_cha q p1 = cond ((v_cb p0).2 != 0) ((0,0),(v_cb p0).2) (cond (v_iw p0 p1) (v_chr p0 p1,0) ((0,0),2)) := by rw [hqe]; rfl
  have hB:v_coo q m = cond (v_coe p0 p2 != 0) ([],v_coe p0 p2) (v_cor p0 p2 []) := by rw [hqe,hme]; rfl
  have hQ:v_cb q = v_cb p0 := by rw [hqe]
  generalize v_cha q p1 = A at *
  generalize v_coo q m = B at *
  generalize v_cb q = Q at *
  clear hq hm hqe hme
  subst hQ
  simp only [fM]
  by_cases g1:(p0.2.length:Int)≤22
  rotate_left
  · rw [decide_eq_false g1]; simp
  by_cases g2:(p2.length:Int)≤22
  rotate_left
  · rw [decide_eq_false g2]; simp
  rw [decide_eq_true g1,decide_eq_true g2]
  have hl := v_cor_len p0 p2 []
  rw [List.length_nil] at hl
  have w0:IntKind.i64.wrap 0 = 0 := rfl
  have hC:v_coe p0 p2 = cond ((v_cb p0).2 != 0) (v_cb p0).2 (v_cs p2).2 := tx_first2
  rw [hC] at hB
  rcases int0 (v_cb p0).2 with ⟨z1,e1,e1'⟩ | ⟨z1,e1,e1'⟩
  rotate_left
  · rw [e1] at hA hB
    simp only [cond_true] at hA hB
    rw [e1] at hB
    subst hA; subst hB
    simp [e1,z1,w0]
    omega
  have bok := v_cb_ok z1
  have b2 := bok.two
  have b3 := bok.len
  rw [e1] at hA hB
  simp only [cond_false] at hA hB
  rcases int0 (v_cs p2).2 with ⟨z2,e2,e2'⟩ | ⟨z2,e2,e2'⟩ <;> rw [e2] at hB
  · have sok := v_cs_iff.1 z2
    have s3 := sok.len
    have k1:lenOk (v_cor p0 p2 []).1 := by unfold lenOk; omega
    cases c:v_iw p0 p1 <;> rw [c] at hA <;> simp only [cond_false,cond_true] at hA hB <;> subst hA hB <;> simp [z1,z2,c,bok,sok,k1] <;> omega
  · cases c:v_iw p0 p1 <;> rw [c] at hA <;> simp only [cond_false,cond_true] at hA hB <;> subst hA hB <;> simp [z1,z2,c,bok,w0] <;> omega

theorem own:ownKnob Tryz.prog.godebug = none := by kernel_rfl
theorem laidOut:laidOutB Tryz.prog = true := by kernel_rfl
theorem hfn3:Tryz.prog.funcs[3]? = some (fnOf Tryz.prog 3) := by kernel_rfl
theorem hps3:(fnOf Tryz.prog 3).params.size = 3 := by kernel_rfl
theorem lifted_MagnetBases (os:Os) (started:os.Started) (H:Type) (enc:TypeId×Value→H) :
    ReturnsInHanded {} Tryz.checked os 3 .any (Rows.magnetBasesSpec.pre6 enc Tryz.prog (fnOf Tryz.prog 3) [] false) (Rows.magnetBasesSpec.post enc Tryz.prog (fnOf Tryz.prog 3) false true false false) :=
  said_of (C := Tryz.checked) (ss := P_Z1.map shP) own started (by kernel_rfl) hfn3
    (ChangeSpec.witness6 (enc := enc) (C := Tryz.checked) false ⟨#[],zeroArgs P_Z1,[]⟩ 8 (by kernel_rfl) (by kernel_rfl) (by kernel_rfl) (by kernel_rfl)) rfl
    (fun ds h => by
      rw [hps3] at h
      match ds,h with
      | [_,_,_],_ => rfl)
    laidOut (by kernel_rfl) (rt := (fnOf Tryz.prog 3).resultTypes.getD 0 0) (by kernel_rfl) (by kernel_rfl) (by kernel_rfl)
    (law_of ok_Z1 fun x hx => ⟨(plain_Z1 x.1 x.2.1 x.2.2 hx).1,congrArg (fun b => V.p (.bool b)) (plain_Z1 x.1 x.2.1 x.2.2 hx).2⟩) (fun _ => rfl)
theorem MagnetBases_holds:Rows.MagnetBasesSaid :=
  OpenClaim.holds_of_wide 3 (fnOf Tryz.prog 3) rfl rfl rfl rfl rfl rfl rfl ⟨rfl,rfl,rfl,rfl,rfl⟩ rfl rfl rfl rfl rfl (by kernel_rfl) hfn3 (by kernel_rfl)
    (of_decide_eq_true (by kernel_rfl)) (by unfold Func.isWrapper; first | (rw [if_pos (by decide +kernel)]; kernel_rfl) | (rw [if_neg (by decide +kernel)]; exact ⟨rfl,rfl⟩))
    (fun os started H enc _ => lifted_MagnetBases os started H enc)
end Go.Proofs.YtdkhhafmidokmaaGreat
