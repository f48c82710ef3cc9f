/- MagnetLags: the given statement is proved: at every input the law returns true, and the input reads as it did. No condition. -/
import Derived.Test.YtdkhhafmidokmaaWalkMagnetLags
import Derived.Test.YtdkhhafmidokmaaLayB
import Derived.Test.YtdkhhafmidokmaaMxU
import Derived.Test.YtdkhhafmidokmaaRows
import Derived.ProofKit
namespace Go.Proofs.Ytdkhhafmidokmaa
open Go Go.Mx
set_option maxRecDepth 100000
/-- The plain law. -/
theorem plain_Z0 (p0 p1:gF) (p2:List (Int×Int×Int×Int×Int)×Int) (_:okPs P_Z0 (p0,p1,p2)):(∀ p∈pre_Z0 p0 p1 p2,p)∧s_Z0 p0 p1 p2 = true := by
  unfold pre_Z0 s_Z0
  generalize hq:([]:List (Int×Int×Int×Int×Int)) ++ p2.1 = q
  simp only [fM]
  by_cases g1:(p0.length:Int) > 42
  · rw [decide_eq_true g1]; simp
  by_cases g2:(p1.length:Int) > 42
  · rw [decide_eq_true g2]; simp
  by_cases g3:(p2.1.length:Int)≤22
  rotate_left
  · rw [decide_eq_false g3]; simp
  rw [decide_eq_false g1,decide_eq_false g2,decide_eq_true g3]
  have k1:p0.length≤1000000 := by omega
  have k2:p1.length≤1000000 := by omega
  have k3:lenOk p0 := by unfold lenOk; omega
  have k4:lenOk p1 := by unfold lenOk; omega
  have k5:p2.1.length≤1000000 := by omega
  have k6:lenOk (v_lgd p2.1 p2.2.toNat) := by have := v_lgd_len p2.1 p2.2.toNat; unfold lenOk; omega
  have C := v_lgx_cases p2.1 p2.2
  rw [show v_lgx p2.1 p2.2 = v_lgx q p2.2 by rw [← hq]; rfl] at C
  clear hq
  have D := v_lof_cases p0 p1
  generalize v_lgx q p2.2 = X at *
  generalize v_lof p0 p1 = Y at *
  rcases C with ⟨c1,e⟩ | ⟨c1,⟨c2,e⟩ | ⟨c2,⟨c3,e⟩ | ⟨c3,e⟩⟩⟩ <;>
  rcases D with ⟨d1,f⟩ | ⟨d1,⟨d2,f⟩ | ⟨d2,⟨d3,f⟩ | ⟨d3,f⟩⟩⟩ <;> subst e <;> subst f
  · simp [*]; omega
  · simp [*]; omega
  · simp [*]; omega
  · have s1 := v_serr_ok d1
    have s2 := v_serr_ok d2
    simp [*]; omega
  · simp [*]; omega
  · simp [*]; omega
  · simp [*]; omega
  · have s1 := v_serr_ok d1
    have s2 := v_serr_ok d2
    simp [*]; omega
  · simp [*]; omega
  · simp [*]; omega
  · simp [*]; omega
  · have s1 := v_serr_ok d1
    have s2 := v_serr_ok d2
    simp [*]; omega
  all_goals
    have hs := (v_cs_iff.1 c1).len
    have hb := tx_within.1 c2
  · simp [*]; omega
  · simp [*]; omega
  · simp [*]; omega
  · have s1 := v_serr_ok d1
    have s2 := v_serr_ok d2
    simp [*]; omega

theorem own:ownKnob Try.prog.godebug = none := by kernel_rfl
theorem laidOut:laidOutB Try.prog = true := by kernel_rfl
theorem hfn9:Try.prog.funcs[9]? = some (fnOf Try.prog 9) := by kernel_rfl
theorem hps9:(fnOf Try.prog 9).params.size = 3 := by kernel_rfl
theorem lifted_MagnetLags (os:Os) (started:os.Started) (H:Type) (enc:TypeId×Value→H) :
    ReturnsInHanded {} Try.checked os 9 .any (Rows.magnetLagsSpec.pre6 enc Try.prog (fnOf Try.prog 9) [] false) (Rows.magnetLagsSpec.post enc Try.prog (fnOf Try.prog 9) false true false false) :=
  said_of (C := Try.checked) (ss := P_Z0.map shP) own started (by kernel_rfl) hfn9
    (ChangeSpec.witness6 (enc := enc) (C := Try.checked) false ⟨#[],zeroArgs P_Z0,[]⟩ 8 (by kernel_rfl) (by kernel_rfl) (by kernel_rfl) (by kernel_rfl)) rfl
    (fun ds h => by
      rw [hps9] at h
      match ds,h with
      | [_,_,_],_ => rfl)
    laidOut (by kernel_rfl) (rt := (fnOf Try.prog 9).resultTypes.getD 0 0) (by kernel_rfl) (by kernel_rfl) (by kernel_rfl)
    (law_of ok_Z0 fun x hx => ⟨(plain_Z0 x.1 x.2.1 x.2.2 hx).1,congrArg (fun b => V.p (.bool b)) (plain_Z0 x.1 x.2.1 x.2.2 hx).2⟩) (fun _ => rfl)
theorem MagnetLags_holds:Rows.MagnetLagsSaid :=
  OpenClaim.holds_of_wide 9 (fnOf Try.prog 9) rfl rfl rfl rfl rfl rfl rfl ⟨rfl,rfl,rfl,rfl,rfl⟩ rfl rfl rfl rfl rfl (by kernel_rfl) hfn9 (by kernel_rfl)
    (of_decide_eq_true (by kernel_rfl)) (by unfold Func.isWrapper; first | (rw [if_pos (by decide +kernel)]; kernel_rfl) | (rw [if_neg (by decide +kernel)]; exact ⟨rfl,rfl⟩))
    (fun os started H enc _ => lifted_MagnetLags os started H enc)
end Go.Proofs.Ytdkhhafmidokmaa
