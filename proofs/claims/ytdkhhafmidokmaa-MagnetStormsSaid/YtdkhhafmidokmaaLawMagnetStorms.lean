/- MagnetStorms: the given statement is proved: at every input the law returns true, and the input reads as it did. No condition. -/
import Derived.Test.YtdkhhafmidokmaaWalkMagnetStorms
import Derived.Test.YtdkhhafmidokmaaLayB
import Derived.Test.YtdkhhafmidokmaaMxU
import Derived.Test.YtdkhhafmidokmaaRows
import Derived.ProofKit
namespace Go.Proofs.Ytdkhhafmidokmaa
open Go Go.Mx
set_option maxRecDepth 100000
theorem v_spo_cases (b:Int×List (Int×Int)) (r:gG) (l:List (Int×Int×Int×Int×Int)):((v_cb b).2 ≠ 0∧v_spo b r l = ([],(v_cb b).2)) ∨ (v_cb b).2 = 0∧((v_rlerr r ≠ 0∧v_spo b r l = ([],v_rlerr r)) ∨ v_rlerr r = 0∧(((v_cs l).2 ≠ 0∧v_spo b r l = ([],(v_cs l).2)) ∨ ((v_cs l).2 = 0∧v_spo b r l = (v_spl (v_strm b r) l,0)))) := by
  unfold v_spo v_sperr
  rw [tx_first3]
  rcases int0 (v_cb b).2 with ⟨z1,e1,_⟩ | ⟨z1,e1,_⟩ <;> rw [e1]
  · refine .inr ⟨z1,?_⟩
    rcases int0 (v_rlerr r) with ⟨z2,e2,_⟩ | ⟨z2,e2,_⟩ <;> rw [e2]
    · refine .inr ⟨z2,?_⟩
      rcases int0 (v_cs l).2 with ⟨z3,e3,_⟩ | ⟨z3,e3,_⟩
      · exact .inr ⟨z3,by simp only [cond_false]; rw [e3]; rfl⟩
      · exact .inl ⟨z3,by simp only [cond_false]; rw [e3]; rfl⟩
    · exact .inl ⟨z2,by simp only [cond_true,cond_false]; rw [e2]; rfl⟩
  · exact .inl ⟨z1,by simp only [cond_true]; rw [e1]; rfl⟩
/-- The plain law. -/
theorem plain_Z0 (p0:Int×List (Int×Int)) (p1:gG) (p2:List (Int×Int×Int×Int×Int)) (_:okPs P_Z0 (p0,p1,p2)):(∀ p∈pre_Z0 p0 p1 p2,p)∧s_Z0 p0 p1 p2 = true := by
  unfold pre_Z0 s_Z0
  generalize hq:(p0.1,([]:List (Int×Int)) ++ p0.2) = q
  generalize hm:([]:List (Int×Int×Int×Int×Int)) ++ p2 = m
  simp only [fM]
  by_cases g1:(p0.2.length:Int)≤22
  rotate_left
  · rw [decide_eq_false g1]; simp
  by_cases g2:(p2.length:Int)≤22
  rotate_left
  · rw [decide_eq_false g2]; simp
  rw [decide_eq_true g1,decide_eq_true g2]
  have w0:IntKind.i64.wrap 0 = 0 := rfl
  have A := v_sto_cases p0 p1
  have C := v_spo_cases p0 p1 p2
  rw [show v_sto p0 p1 = v_sto q p1 by rw [← hq]; rfl] at A
  rw [show v_spo p0 p1 p2 = v_spo q p1 m by rw [← hq,← hm]; rfl] at C
  clear hq hm
  generalize v_sto q p1 = X at *
  generalize v_spo q p1 m = Y at *
  rcases C with ⟨c1,e⟩ | ⟨c1,⟨c2,e⟩ | ⟨c2,c⟩⟩
  · rcases A with ⟨_,f⟩ | ⟨a1,_⟩
    · subst e; subst f
      simp [*]; omega
    · exact (c1 a1).elim
  · rcases A with ⟨a1,_⟩ | ⟨_,⟨_,f⟩ | ⟨a2,_⟩⟩
    · exact (a1 c1).elim
    · subst e; subst f
      simp [*]; omega
    · exact (c2 a2).elim
  · rcases A with ⟨a1,_⟩ | ⟨_,⟨a2,_⟩ | ⟨_,f⟩⟩
    · exact (a1 c1).elim
    · exact (a2 c2).elim
    · have s1 := v_cb_ok c1
      have s2 := v_rlerr_ok c2
      have k1:lenOk (v_strm p0 p1) := by have := v_strm_len s1 p1; unfold lenOk; omega
      have k2:lenOk (v_spl (v_strm p0 p1) p2) := by
        have := v_sel_len (fun k => v_hit (v_strm p0 p1) (p2.getD k (0,0,0,0,0)).1) (List.range p2.length)
        rw [List.length_range] at this
        unfold v_spl lenOk; omega
      rcases c with ⟨c3,e⟩ | ⟨c3,e⟩
      · subst e; subst f
        simp [*]; omega
      · have s3 := (v_cs_iff.1 c3).len
        subst e; subst f
        simp [*]; omega

theorem own:ownKnob Try.prog.godebug = none := by kernel_rfl
theorem laidOut:laidOutB Try.prog = true := by kernel_rfl
theorem hfn6:Try.prog.funcs[6]? = some (fnOf Try.prog 6) := by kernel_rfl
theorem hps6:(fnOf Try.prog 6).params.size = 3 := by kernel_rfl
theorem lifted_MagnetStorms (os:Os) (started:os.Started) (H:Type) (enc:TypeId×Value→H) :
    ReturnsInHanded {} Try.checked os 6 .any (Rows.magnetStormsSpec.pre6 enc Try.prog (fnOf Try.prog 6) [] false) (Rows.magnetStormsSpec.post enc Try.prog (fnOf Try.prog 6) false true false false) :=
  said_of (C := Try.checked) (ss := P_Z0.map shP) own started (by kernel_rfl) hfn6
    (ChangeSpec.witness6 (enc := enc) (C := Try.checked) false ⟨#[],zeroArgs P_Z0,[]⟩ 8 (by kernel_rfl) (by kernel_rfl) (by kernel_rfl) (by kernel_rfl)) rfl
    (fun ds h => by
      rw [hps6] at h
      match ds,h with
      | [_,_,_],_ => rfl)
    laidOut (by kernel_rfl) (rt := (fnOf Try.prog 6).resultTypes.getD 0 0) (by kernel_rfl) (by kernel_rfl) (by kernel_rfl)
    (law_of ok_Z0 fun x hx => ⟨(plain_Z0 x.1 x.2.1 x.2.2 hx).1,congrArg (fun b => V.p (.bool b)) (plain_Z0 x.1 x.2.1 x.2.2 hx).2⟩) (fun _ => rfl)
theorem MagnetStorms_holds:Rows.MagnetStormsSaid :=
  OpenClaim.holds_of_wide 6 (fnOf Try.prog 6) rfl rfl rfl rfl rfl rfl rfl ⟨rfl,rfl,rfl,rfl,rfl⟩ rfl rfl rfl rfl rfl (by kernel_rfl) hfn6 (by kernel_rfl)
    (of_decide_eq_true (by kernel_rfl)) (by unfold Func.isWrapper; first | (rw [if_pos (by decide +kernel)]; kernel_rfl) | (rw [if_neg (by decide +kernel)]; exact ⟨rfl,rfl⟩))
    (fun os started H enc _ => lifted_MagnetStorms os started H enc)
end Go.Proofs.Ytdkhhafmidokmaa
