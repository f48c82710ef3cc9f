/- MagnetSpikes: the given statement is proved: at every input the law returns true, and the input reads as it did. No condition. -/
import Derived.Test.YtdkhhafmidokmaaWalkMagnetSpikes
import Derived.Test.YtdkhhafmidokmaaLayB
import Derived.Test.YtdkhhafmidokmaaMxU
import Derived.Test.YtdkhhafmidokmaaRows
import Derived.ProofKit
namespace Go.Proofs.Ytdkhhafmidokmaa
open Go Go.Mx
set_option maxRecDepth 100000
theorem plain_l02 (p0:gF) (p1:Int) (h:v_ser p0) (c:s_Z2 p1 0 200000 = true) (hd:v_desp p0 p1 = (v_dsp p0 p1,v_spks p0 p1,0)):OkL (st_Z0_0 p0 p1) (sp_Z0_0 p0 p1) 0∧lpv false (st_Z0_0 p0 p1) 0 = true := by
  have hl := h.len
  have hsl := v_spks_len p0 p1
  have hb := tx_within.1 c
  have main := @for_is PUnit Int Bool false (st_Z0_0 p0 p1) (sp_Z0_0 p0 p1) (fun i _ => i) 0 (v_spks p0 p1).length (fun _ _ => True) (fun _ _ => true) (Nat.zero_le _) (by omega) ?_ ?_ ⟨⟩ trivial
  · exact main
  · rintro t _
    simp only [sp_Z0_0,st_Z0_0,hd,fM,decide_eq_false (Int.lt_irrefl ((v_spks p0 p1).length:Int)),cond_false]
    refine ⟨?_,trivial⟩
    and_intros
    all_goals first
      | (intro h; cases h; done)
      | (intro p hp; cases hp)
  · rintro j t h0 hj _
    obtain ⟨i,hi,hs,he⟩ := v_spks_mem.1 (getD_mem' 0 hj)
    have hw1:IntKind.i64.wrap ((j:Int) + 1) = ((j + 1:Nat):Int) := wrap_id (by omega) (by omega)
    have hw2:IntKind.i64.wrap ((i:Int) - 1) = ((i - 1:Nat):Int) := by rw [wrap_id (by omega) (by omega)]; omega
    have hw3:IntKind.i64.wrap ((i:Int) + 1) = ((i + 1:Nat):Int) := wrap_id (by omega) (by omega)
    have hdj:decide ((j:Int) < ((v_spks p0 p1).length:Int)) = true := decide_eq_true (by omega)
    have hlen := v_dsp_len p0 p1
    have hv:s_Z2 ((v_dsp p0 p1).getD i 0) (min (p0.getD (i - 1) 0) (p0.getD (i + 1) 0)) (max (p0.getD (i - 1) 0) (p0.getD (i + 1) 0)) = true := by
      rw [v_dsp_get (by omega),v_dk_at hi.1 hi.2,hs,cond_true]
      exact tx_within.2 (by omega)
    simp only [sp_Z0_0,st_Z0_0,hd,fM,hdj,cond_true,Int.toNat_natCast,he,hw1,hw2,hw3,hv,Bool.not_true,cond_false]
    refine ⟨?_,.inl ⟨⟨⟩,trivial,trivial,trivial⟩⟩
    and_intros
    all_goals first
      | (intro p hp; cases hp; done)
      | (intros; omega)
/-- The plain law. -/
theorem plain_Z0 (p0:gF) (p1:Int) (_:okPs P_Z0 (p0,p1)):(∀ p∈pre_Z0 p0 p1,p)∧s_Z0 p0 p1 = true := by
  unfold pre_Z0 s_Z0
  simp only [fM]
  by_cases h42:(p0.length:Int) > 42
  · rw [decide_eq_true h42]; simp
  rw [decide_eq_false h42]
  have w0:IntKind.i64.wrap 0 = 0 := rfl
  rcases int0 (v_serr p0) with ⟨z,e,e'⟩ | ⟨z,e,e'⟩
  · have hs := v_serr_ok z
    have hl := hs.len
    have hsl := v_spks_len p0 p1
    have hlen := v_dsp_len p0 p1
    cases c:s_Z2 p1 0 200000
    · have r:v_desp p0 p1 = ([],[],2) := by unfold v_desp; rw [e,c]; rfl
      rw [r,e,e']
      simp [w0]; omega
    · have hb := tx_within.1 c
      have r:v_desp p0 p1 = (v_dsp p0 p1,v_spks p0 p1,0) := by unfold v_desp; rw [e,c]; rfl
      have lp := plain_l02 p0 p1 hs c r
      rw [r,e,e',lp.2]
      simp [hs,lp.1]; omega
  · have r:v_desp p0 p1 = ([],[],v_serr p0) := by unfold v_desp; rw [e]; rfl
    rw [r,e,e']
    simp [w0]; omega

theorem own:ownKnob Try.prog.godebug = none := by kernel_rfl
theorem laidOut:laidOutB Try.prog = true := by kernel_rfl
theorem hfn11:Try.prog.funcs[11]? = some (fnOf Try.prog 11) := by kernel_rfl
theorem hps11:(fnOf Try.prog 11).params.size = 2 := by kernel_rfl
theorem lifted_MagnetSpikes (os:Os) (started:os.Started) (H:Type) (enc:TypeId×Value→H) :
    ReturnsInHanded {} Try.checked os 11 .any (Rows.magnetSpikesSpec.pre6 enc Try.prog (fnOf Try.prog 11) [] false) (Rows.magnetSpikesSpec.post enc Try.prog (fnOf Try.prog 11) false true false false) :=
  said_of (C := Try.checked) (ss := P_Z0.map shP) own started (by kernel_rfl) hfn11
    (ChangeSpec.witness6 (enc := enc) (C := Try.checked) false ⟨#[],zeroArgs P_Z0,[]⟩ 8 (by kernel_rfl) (by kernel_rfl) (by kernel_rfl) (by kernel_rfl)) rfl
    (fun ds h => by
      rw [hps11] at h
      match ds,h with
      | [_,_],_ => rfl)
    laidOut (by kernel_rfl) (rt := (fnOf Try.prog 11).resultTypes.getD 0 0) (by kernel_rfl) (by kernel_rfl) (by kernel_rfl)
    (law_of ok_Z0 fun x hx => ⟨(plain_Z0 x.1 x.2 hx).1,congrArg (fun b => V.p (.bool b)) (plain_Z0 x.1 x.2 hx).2⟩) (fun _ => rfl)
theorem MagnetSpikes_holds:Rows.MagnetSpikesSaid :=
  OpenClaim.holds_of_wide 11 (fnOf Try.prog 11) rfl rfl rfl rfl rfl rfl rfl ⟨rfl,rfl,rfl,rfl,rfl⟩ rfl rfl rfl rfl rfl (by kernel_rfl) hfn11 (by kernel_rfl)
    (of_decide_eq_true (by kernel_rfl)) (by unfold Func.isWrapper; first | (rw [if_pos (by decide +kernel)]; kernel_rfl) | (rw [if_neg (by decide +kernel)]; exact ⟨rfl,rfl⟩))
    (fun os started H enc _ => lifted_MagnetSpikes os started H enc)
end Go.Proofs.Ytdkhhafmidokmaa
