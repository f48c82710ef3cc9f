/- GroundExplained: the given statement is proved: at every input the law returns true, and the input reads as it did. No condition. -/
import Derived.Test.YtehblgccaiiikaaGreatWalkGroundExplained
import Derived.Test.YtehblgccaiiikaaGreatLayB
import Derived.Test.YtehblgccaiiikaaGreatMxU
import Derived.Test.YtehblgccaiiikaaGreatRows
import Derived.ProofKit
namespace Go.Proofs.YtehblgccaiiikaaGreat
open Go Go.Mx
set_option maxRecDepth 100000
/-- The plain law. -/
theorem plain_Z0 (p0:gA) (p1:gB) (p2:Int) (_:okPs P_Z0 (p0,p1,p2)):(∀ p∈pre_Z0 p0 p1 p2,p)∧s_Z0 p0 p1 p2 = true := by
  unfold pre_Z0 s_Z0
  simp only [qp0_Z0,qp1_Z0,qp2_Z0,qp3_Z0,qp4_Z0,qp5_Z0,fM,List.length_nil]
  have e4:s_Z1 p1 = p1 := rfl
  rw [e4]
  cases hF:v_fewb p0
  · simp
  obtain ⟨hl6,hf⟩ := tx_few hF
  cases hL:v_light p0
  · simp [hf]
  cases h8:s_Z22 p1
  · simp [hf]
  have h8' : (p1.length:Int)≤8 := by unfold s_Z22 at h8; exact of_decide_eq_true h8
  have w0:IntKind.i64.wrap (0:Int) = 0 := rfl
  rcases int0 (v_cc p0).2 with ⟨z,e,e'⟩ | ⟨z,e,e'⟩
  rotate_left
  · have r1:v_exin p0 p1 = ([],(v_cc p0).2) := by unfold v_exin; rw [e]; rfl
    have r2:v_rof p0 p1 = ([],(v_cc p0).2) := by unfold v_rof; rw [e]; rfl
    have r3:v_twoof p0 p1 p2 = ((0,0),(v_cc p0).2) := by unfold v_twoof; rw [e]; rfl
    rw [r1,r2,r3,e,e']
    simp [hl6,hf,w0]; omega
  have hc := tx_cc_ok hf z
  rcases int0 (v_cd p1).2 with ⟨y,f,f'⟩ | ⟨y,f,f'⟩
  rotate_left
  · have r1:v_exin p0 p1 = ([],(v_cd p1).2) := by unfold v_exin; rw [e,f]; rfl
    have r2:v_rof p0 p1 = ([],(v_cd p1).2) := by unfold v_rof; rw [e,f]; rfl
    have r3:v_twoof p0 p1 p2 = ((0,0),(v_cd p1).2) := by unfold v_twoof; rw [e,f]; rfl
    rw [r1,r2,r3,e,e',f]
    simp [hl6,hf,w0]; omega
  have hd := (tx_cd_ok y).1
  have hcne := hc.cne
  have hl4 := hcne.len
  have hcnt := hc.cnt
  have hel := v_expn_len p1 (v_mdls p0)
  rw [v_mdls_len] at hel
  have r1:v_exin p0 p1 = (v_expn p1 (v_mdls p0),0) := by unfold v_exin; rw [e,f]; rfl
  have r2:v_rof p0 p1 = (v_rngs p0 [] (v_expn p1 (v_mdls p0)),cond (decide (((v_rngs p0 [] (v_expn p1 (v_mdls p0))).length:Int) > 0)) 0 12) := by unfold v_rof; rw [e,f]; rfl
  have r3:v_twoof p0 p1 p2 = cond (s_Z3 p2 1 20) (match v_two p0 p2 (v_expn p1 (v_mdls p0)) with | some p => (p,(0:Int)) | none => ((0,0),12)) ((0,0),2) := by unfold v_twoof; rw [e,f]; rfl
  have hnn:∀ n∈v_expn p1 (v_mdls p0),0≤n∧n≤9223372036854775807 := fun n hn => by have := v_expn_nn hc hn; exact ⟨this.1,this.2.1⟩
  rw [r1,r2,r3,e,e',f]
  have hlen:v_expn p1 (v_mdls p0) ≠ []→(v_rngs p0 [] (v_expn p1 (v_mdls p0))).length = p0.length := fun h => v_rngs_len p0 _ [] (.inl rfl) (.inl h)
  have h0:0 < p0.length := List.length_pos_iff.2 hc.ne
  unfold v_twob
  generalize v_expn p1 (v_mdls p0) = a at *
  have hnum:v_nums a := ⟨by omega,hnn⟩
  have lk:lenOk a := lenOk_le (n := 300) (by omega) (by decide)
  by_cases hne:a = []
  · subst hne
    have er:v_rngs p0 [] [] = [] := rfl
    have et:v_two p0 p2 [] = none := rfl
    rw [er,et]
    cases s_Z3 p2 1 20
    · simp [hl6,hf,hc,hd,hcne,lk,hnum]; omega
    · simp [hl6,hf,hc,hd,hcne,lk,hnum]; omega
  · have hrl := hlen hne
    have hal:0 < a.length := List.length_pos_iff.2 hne
    have lk2:lenOk (v_rngs p0 [] a) := lenOk_le (n := 4) (by omega) (by decide)
    have d1:decide (((v_rngs p0 [] a).length:Int) > 0) = true := decide_eq_true (by omega)
    rw [d1]
    cases s_Z3 p2 1 20
    · simp [hl6,hf,hc,hd,hcne,lk,lk2,hnum,hne,hal]; omega
    · cases v_two p0 p2 a with
      | none => simp [hl6,hf,hc,hd,hcne,lk,lk2,hnum,hne,hal]; omega
      | some p => simp [hl6,hf,hc,hd,hcne,lk,lk2,hnum,hne,hal]; omega

theorem own:ownKnob Tryz.prog.godebug = none := by kernel_rfl
theorem laidOut:laidOutB Tryz.prog = true := by kernel_rfl
theorem hfn3:Tryz.prog.funcs[3]? = some (fnOf Tryz.prog 3) := by kernel_rfl
theorem hps3:(fnOf Tryz.prog 3).params.size = 3 := by kernel_rfl
theorem lifted_GroundExplained (os:Os) (started:os.Started) (H:Type) (enc:TypeId×Value→H) :
    ReturnsInHanded {} Tryz.checked os 3 .any (Rows.groundExplainedSpec.pre6 enc Tryz.prog (fnOf Tryz.prog 3) [] false) (Rows.groundExplainedSpec.post enc Tryz.prog (fnOf Tryz.prog 3) false true false false) :=
  said_of (C := Tryz.checked) (ss := P_Z0.map shP) own started (by kernel_rfl) hfn3
    (ChangeSpec.witness6 (enc := enc) (C := Tryz.checked) false ⟨#[],zeroArgs P_Z0,[]⟩ 8 (by kernel_rfl) (by kernel_rfl) (by kernel_rfl) (by kernel_rfl)) rfl
    (fun ds h => by
      rw [hps3] at h
      match ds,h with
      | [_,_,_],_ => rfl)
    laidOut (by kernel_rfl) (rt := (fnOf Tryz.prog 3).resultTypes.getD 0 0) (by kernel_rfl) (by kernel_rfl) (by kernel_rfl)
    (law_of ok_Z0 fun x hx => ⟨(plain_Z0 x.1 x.2.1 x.2.2 hx).1,congrArg (fun b => V.p (.bool b)) (plain_Z0 x.1 x.2.1 x.2.2 hx).2⟩) (fun _ => rfl)
theorem GroundExplained_holds:Rows.GroundExplainedSaid :=
  OpenClaim.holds_of_wide 3 (fnOf Tryz.prog 3) rfl rfl rfl rfl rfl rfl rfl ⟨rfl,rfl,rfl,rfl,rfl⟩ rfl rfl rfl rfl rfl (by kernel_rfl) hfn3 (by kernel_rfl)
    (of_decide_eq_true (by kernel_rfl)) (by unfold Func.isWrapper; first | (rw [if_pos (by decide +kernel)]; kernel_rfl) | (rw [if_neg (by decide +kernel)]; exact ⟨rfl,rfl⟩))
    (fun os started H enc _ => lifted_GroundExplained os started H enc)
end Go.Proofs.YtehblgccaiiikaaGreat
