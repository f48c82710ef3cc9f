/- MagnetSamples: the given statement is proved: at every input the law returns true, and the input reads as it did. No condition. -/
import Derived.Test.YtdkhhafmidokmaaWalkMagnetSamples
import Derived.Test.YtdkhhafmidokmaaLayB
import Derived.Test.YtdkhhafmidokmaaMxU
import Derived.Test.YtdkhhafmidokmaaRows
import Derived.ProofKit
namespace Go.Proofs.Ytdkhhafmidokmaa
open Go Go.Mx
set_option maxRecDepth 100000
/-- The plain law. -/
theorem plain_Z1 (p0:List (Int×Int×Int×Int×Int)) (p1:Int) (_:okPs P_Z1 (p0,p1)):(∀ p∈pre_Z1 p0 p1,p)∧s_Z1 p0 p1 = true := by
  unfold pre_Z1 s_Z1
  simp only [fM,List.nil_append,List.length_nil]
  by_cases h22:(p0.length:Int)≤22
  rotate_left
  · rw [decide_eq_false h22]; simp
  rw [decide_eq_true h22]
  have hw:IntKind.i64.wrap ((p0.length:Int) - 1) = (p0.length:Int) - 1 := wrap_id (by omega) (by omega)
  rw [hw]
  rcases int0 (v_cs p0).2 with ⟨z,e,e'⟩ | ⟨z,e,e'⟩
  · have hs := v_cs_iff.1 z
    cases c:s_Z3 p1 0 ((p0.length:Int) - 1)
    · have r:v_tof p0 p1 = ((0,0,0,0,0,0,0,0),6) := by unfold v_tof; rw [e,c]; rfl
      rw [r,e,e']
      simp; omega
    · have hb := tx_within.1 c
      have r:v_tof p0 p1 = (v_tms p0 p1.toNat,0) := by unfold v_tof; rw [e,c]; rfl
      rw [r,e,e']
      simp [hs]; omega
  · have r:v_tof p0 p1 = ((0,0,0,0,0,0,0,0),(v_cs p0).2) := by unfold v_tof; rw [e]; rfl
    rw [r,e,e']
    simp; omega

theorem own:ownKnob Try.prog.godebug = none := by kernel_rfl
theorem laidOut:laidOutB Try.prog = true := by kernel_rfl
theorem hfn5:Try.prog.funcs[5]? = some (fnOf Try.prog 5) := by kernel_rfl
theorem hps5:(fnOf Try.prog 5).params.size = 2 := by kernel_rfl
theorem lifted_MagnetSamples (os:Os) (started:os.Started) (H:Type) (enc:TypeId×Value→H) :
    ReturnsInHanded {} Try.checked os 5 .any (Rows.magnetSamplesSpec.pre6 enc Try.prog (fnOf Try.prog 5) [] false) (Rows.magnetSamplesSpec.post enc Try.prog (fnOf Try.prog 5) false true false false) :=
  said_of (C := Try.checked) (ss := P_Z1.map shP) own started (by kernel_rfl) hfn5
    (ChangeSpec.witness6 (enc := enc) (C := Try.checked) false ⟨#[],zeroArgs P_Z1,[]⟩ 8 (by kernel_rfl) (by kernel_rfl) (by kernel_rfl) (by kernel_rfl)) rfl
    (fun ds h => by
      rw [hps5] at h
      match ds,h with
      | [_,_],_ => rfl)
    laidOut (by kernel_rfl) (rt := (fnOf Try.prog 5).resultTypes.getD 0 0) (by kernel_rfl) (by kernel_rfl) (by kernel_rfl)
    (law_of ok_Z1 fun x hx => ⟨(plain_Z1 x.1 x.2 hx).1,congrArg (fun b => V.p (.bool b)) (plain_Z1 x.1 x.2 hx).2⟩) (fun _ => rfl)
theorem MagnetSamples_holds:Rows.MagnetSamplesSaid :=
  OpenClaim.holds_of_wide 5 (fnOf Try.prog 5) rfl rfl rfl rfl rfl rfl rfl ⟨rfl,rfl,rfl,rfl,rfl⟩ rfl rfl rfl rfl rfl (by kernel_rfl) hfn5 (by kernel_rfl)
    (of_decide_eq_true (by kernel_rfl)) (by unfold Func.isWrapper; first | (rw [if_pos (by decide +kernel)]; kernel_rfl) | (rw [if_neg (by decide +kernel)]; exact ⟨rfl,rfl⟩))
    (fun os started H enc _ => lifted_MagnetSamples os started H enc)
end Go.Proofs.Ytdkhhafmidokmaa
