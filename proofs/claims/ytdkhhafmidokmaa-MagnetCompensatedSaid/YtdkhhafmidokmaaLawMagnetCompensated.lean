/- MagnetCompensated: the given statement is proved: at every input the law returns true, and the input reads as it did. No condition. -/
import Derived.Test.YtdkhhafmidokmaaWalkMagnetCompensated
import Derived.Test.YtdkhhafmidokmaaLayB
import Derived.Test.YtdkhhafmidokmaaMxU
import Derived.Test.YtdkhhafmidokmaaRows
import Derived.ProofKit
namespace Go.Proofs.Ytdkhhafmidokmaa
open Go Go.Mx
set_option maxRecDepth 100000
theorem v_rmx_a {l:List (Int×Int×Int×Int×Int)} {f:Int×Int×Int×Int×Int×Int×Int×Int×Int} {m:Int} (h:(v_cs l).2 ≠ 0):v_rmx l f m = ([],(v_cs l).2) := by
  rcases v_rmx_cases l f m with ⟨_,e⟩ | ⟨c,_⟩
  · exact e
  · exact (h c).elim
theorem v_rmx_b {l:List (Int×Int×Int×Int×Int)} {f:Int×Int×Int×Int×Int×Int×Int×Int×Int} {m:Int} (h:(v_cs l).2 = 0) (h2:v_ferr f ≠ 0):v_rmx l f m = ([],v_ferr f) := by
  rcases v_rmx_cases l f m with ⟨c,_⟩ | ⟨_,⟨_,e⟩ | ⟨c,_⟩⟩
  · exact (c h).elim
  · exact e
  · exact (h2 c).elim
theorem v_rmx_c {l:List (Int×Int×Int×Int×Int)} {f:Int×Int×Int×Int×Int×Int×Int×Int×Int} {m:Int} (h:(v_cs l).2 = 0) (h2:v_ferr f = 0):v_rmx l f m = (v_rem l m.toNat f,0) := by
  rcases v_rmx_cases l f m with ⟨c,_⟩ | ⟨_,⟨c,_⟩ | ⟨_,e⟩⟩
  · exact (c h).elim
  · exact (c h2).elim
  · exact e
theorem v_lger_lgs {n:Int} {g:List Int} (h:v_lger n g = 0):v_lgs n (-1) g = 0 := by
  unfold v_lger at h
  cases c:((g.length:Int) == 0) <;> rw [c] at h
  · exact h
  · cases h
/-- The plain law. -/
theorem plain_Z0 (p0:List (Int×Int×Int×Int×Int)) (p1:Int×Int×Int×Int×Int×Int×Int×Int×Int) (p2:gF) (_:okPs P_Z0 (p0,p1,p2)):(∀ p∈pre_Z0 p0 p1 p2,p)∧s_Z0 p0 p1 p2 = true := by
  unfold pre_Z0 s_Z0
  generalize hq:([]:List (Int×Int×Int×Int×Int)) ++ p0 = q
  simp only [fM]
  by_cases g1:(p0.length:Int)≤22
  rotate_left
  · rw [decide_eq_false g1]; simp
  by_cases g2:(p2.length:Int) > 22
  · rw [decide_eq_true g2]; simp
  rw [decide_eq_true g1,decide_eq_false g2]
  have k1:lenOk q := by rw [← hq,List.nil_append]; unfold lenOk; omega
  have k2:lenOk (v_rem p0 0 p1) := by have := v_rem_len p0 0 p1; unfold lenOk; omega
  have k3:lenOk (v_rem p0 1 p1) := by have := v_rem_len p0 1 p1; unfold lenOk; omega
  have w0:IntKind.i64.wrap 0 = 0 := rfl
  have C := v_fgx_cases p0 p1 p2
  have A0:(v_cs p0).2 ≠ 0→v_rmx q p1 0 = ([],(v_cs p0).2) := fun h => by rw [← hq]; exact v_rmx_a h
  have A1:(v_cs p0).2 ≠ 0→v_rmx q p1 1 = ([],(v_cs p0).2) := fun h => by rw [← hq]; exact v_rmx_a h
  have B0:(v_cs p0).2 = 0→v_ferr p1 ≠ 0→v_rmx q p1 0 = ([],v_ferr p1) := fun h h2 => by rw [← hq]; exact v_rmx_b h h2
  have B1:(v_cs p0).2 = 0→v_ferr p1 ≠ 0→v_rmx q p1 1 = ([],v_ferr p1) := fun h h2 => by rw [← hq]; exact v_rmx_b h h2
  have C0:(v_cs p0).2 = 0→v_ferr p1 = 0→v_rmx q p1 0 = (v_rem p0 0 p1,0) := fun h h2 => by rw [← hq]; exact v_rmx_c h h2
  have C1:(v_cs p0).2 = 0→v_ferr p1 = 0→v_rmx q p1 1 = (v_rem p0 1 p1,0) := fun h h2 => by rw [← hq]; exact v_rmx_c h h2
  rw [show v_fgx p0 p1 p2 = v_fgx q p1 p2 by rw [← hq]; rfl] at C
  clear hq
  generalize v_fgx q p1 p2 = X at *
  generalize v_rmx q p1 0 = Y at *
  generalize v_rmx q p1 1 = Z at *
  rcases C with ⟨c1,e⟩ | ⟨c1,⟨c2,e⟩ | ⟨c2,⟨c3,e⟩ | ⟨c3,e⟩⟩⟩
  · obtain rfl := A0 c1
    obtain rfl := A1 c1
    subst e
    clear A0 A1 B0 B1 C0 C1
    simp [*]; omega
  · obtain rfl := B0 c1 c2
    obtain rfl := B1 c1 c2
    subst e
    clear A0 A1 B0 B1 C0 C1
    simp [*]; omega
  · obtain rfl := C0 c1 c2
    obtain rfl := C1 c1 c2
    subst e
    clear A0 A1 B0 B1 C0 C1
    have s1 := v_cs_iff.1 c1
    have s2 := v_ferr_ok c2
    simp [*]; omega
  · obtain rfl := C0 c1 c2
    obtain rfl := C1 c1 c2
    subst e
    clear A0 A1 B0 B1 C0 C1
    have s1 := v_cs_iff.1 c1
    have s2 := v_ferr_ok c2
    have s3 := v_lger_lgs c3
    simp [*]; omega

theorem own:ownKnob Try.prog.godebug = none := by kernel_rfl
theorem laidOut:laidOutB Try.prog = true := by kernel_rfl
theorem hfn12:Try.prog.funcs[12]? = some (fnOf Try.prog 12) := by kernel_rfl
theorem hps12:(fnOf Try.prog 12).params.size = 3 := by kernel_rfl
theorem lifted_MagnetCompensated (os:Os) (started:os.Started) (H:Type) (enc:TypeId×Value→H) :
    ReturnsInHanded {} Try.checked os 12 .any (Rows.magnetCompensatedSpec.pre6 enc Try.prog (fnOf Try.prog 12) [] false) (Rows.magnetCompensatedSpec.post enc Try.prog (fnOf Try.prog 12) false true false false) :=
  said_of (C := Try.checked) (ss := P_Z0.map shP) own started (by kernel_rfl) hfn12
    (ChangeSpec.witness6 (enc := enc) (C := Try.checked) false ⟨#[],zeroArgs P_Z0,[]⟩ 8 (by kernel_rfl) (by kernel_rfl) (by kernel_rfl) (by kernel_rfl)) rfl
    (fun ds h => by
      rw [hps12] at h
      match ds,h with
      | [_,_,_],_ => rfl)
    laidOut (by kernel_rfl) (rt := (fnOf Try.prog 12).resultTypes.getD 0 0) (by kernel_rfl) (by kernel_rfl) (by kernel_rfl)
    (law_of ok_Z0 fun x hx => ⟨(plain_Z0 x.1 x.2.1 x.2.2 hx).1,congrArg (fun b => V.p (.bool b)) (plain_Z0 x.1 x.2.1 x.2.2 hx).2⟩) (fun _ => rfl)
theorem MagnetCompensated_holds:Rows.MagnetCompensatedSaid :=
  OpenClaim.holds_of_wide 12 (fnOf Try.prog 12) rfl rfl rfl rfl rfl rfl rfl ⟨rfl,rfl,rfl,rfl,rfl⟩ rfl rfl rfl rfl rfl (by kernel_rfl) hfn12 (by kernel_rfl)
    (of_decide_eq_true (by kernel_rfl)) (by unfold Func.isWrapper; first | (rw [if_pos (by decide +kernel)]; kernel_rfl) | (rw [if_neg (by decide +kernel)]; exact ⟨rfl,rfl⟩))
    (fun os started H enc _ => lifted_MagnetCompensated os started H enc)
end Go.Proofs.Ytdkhhafmidokmaa
