/- GravityClosures: the given statement is proved: at every input the law returns true, and the input reads as it did. No condition. -/
import Derived.Test.YtcecdmdnfmgnfaaDoorWalkGravityClosures
import Derived.Test.YtcecdmdnfmgnfaaDoorLayB
import Derived.Test.YtcecdmdnfmgnfaaDoorMxUl
import Derived.Test.YtcecdmdnfmgnfaaDoorRows
import Derived.Test.YtcecdmdnfmgnfaaDoorCards
import Derived.Test.YtcecdmdnfmgnfaaDoorTie
import Derived.ProofKit
import Derived.SevenTiedAt
namespace Go.Proofs.YtcecdmdnfmgnfaaDoor
open Go Go.Mx
set_option maxRecDepth 100000
theorem l_clo (p0 : List (Int × Int)) : (∃ e, e ≠ 0 ∧ s_ref05_HeightsErr p0 = e ∧ t_gravity_ClosureOf p0 = ((0, 0), (0, e))) ∨ (s_ref05_HeightsErr p0 = 0 ∧ v_hok p0 ∧ ((((p0.length : Nat) : Int) = 0 ∧ t_gravity_ClosureOf p0 = ((0, 0), (0, 10))) ∨ (((p0.length : Nat) : Int) ≠ 0 ∧ ∃ c : (Int × Int) × Int, v_clo (v_ones p0) = c ∧ t_gravity_ClosureOf p0 = (c.1, (c.2, 0))))) := by
  rcases int0 (s_ref05_HeightsErr p0) with ⟨b1, b2, _⟩ | ⟨b1, b2, _⟩
  · refine .inr ⟨b1, tx_heights (show (v_heights p0).2 = 0 from b1), ?_⟩
    have e : v_clerr p0 = s_gravity_unless (decide ((p0.length : Int) > 0)) 10 := by
      unfold v_clerr
      rw [show s_gravity_rangesErr p0 = 0 from b1]
      cases decide ((p0.length : Int) > 0) <;> rfl
    unfold t_gravity_ClosureOf
    rw [e]
    by_cases c : ((p0.length : Nat) : Int) = 0
    · exact .inl ⟨c, by rw [decide_eq_false (show ¬ (p0.length : Int) > 0 by omega)]; rfl⟩
    · exact .inr ⟨c, _, rfl, by rw [decide_eq_true (show (p0.length : Int) > 0 by omega)]; rfl⟩
  · refine .inl ⟨_, b1, rfl, ?_⟩
    have e : v_clerr p0 = s_ref05_HeightsErr p0 := by
      show v_first [s_ref05_HeightsErr p0, _] = _
      simp only [v_first]; rw [b2]; rfl
    unfold t_gravity_ClosureOf
    rw [e, b2]; rfl
/-- The plain law. -/
theorem plain_law05_GravityClosures (p0 : List (Int × Int)) (_ : okPs P_law05_GravityClosures p0) : (∀ p ∈ pre_law05_GravityClosures p0, p) ∧ s_law05_GravityClosures p0 = true := by
  unfold pre_law05_GravityClosures s_law05_GravityClosures
  cases hf : (!(s_law05_few p0))
  · have hl : p0.length ≤ 1000000 := by
      unfold s_law05_few at hf
      cases h1 : decide ((p0.length : Int) ≤ 66)
      · rw [h1] at hf; cases hf
      · have := of_decide_eq_true h1; omega
    have hc := l_clo p0
    generalize t_gravity_ClosureOf p0 = C at *
    rcases hc with ⟨e, g0, g1, rfl⟩ | ⟨g1, g2, ⟨g3, rfl⟩ | ⟨g3, c, g4, rfl⟩⟩ <;> simp only [List.forall_mem_cons] <;> simp_all
  · simp

theorem own : ownKnob Tryd.prog.godebug = none := by kernel_rfl
theorem laidOut : laidOutB Tryd.prog = true := by kernel_rfl
theorem hfn5 : Tryd.prog.funcs[5]? = some (fnOf Tryd.prog 5) := by kernel_rfl
theorem hps5 : (fnOf Tryd.prog 5).params.size = 1 := by kernel_rfl
theorem globs (W : World) (h : laidMetH Tryd.prog Rows.gravityClosuresRow.laid W) : Glob (fun b => b < W.heap.size) W := by
  intro g cs hg
  match g, hg with
  | 0, hg =>
    have e : [.int .i64 1, .int .i64 (-2), .int .i64 1] = cs := Option.some.inj hg
    subst e
    exact glob_ints (zs := [1, -2, 1]) (k := .i64) (t := 25) (e := 3) h (by kernel_rfl) (n := "cloverleaf/gravity.second") (.head _) (by kernel_rfl) (by kernel_rfl) (by kernel_rfl) (by kernel_rfl) (by kernel_rfl)
  | _ + 1, hg => cases hg
theorem lifted_GravityClosures (os : Os) (started : os.Started) (H : Type) (enc : TypeId × Value → H) :
    ReturnsInHanded {} Tryd.checked os 5 .any (fun w args => (Rows.gravityClosuresSpec.pre enc Tryd.prog (fnOf Tryd.prog 5) Rows.gravityClosuresRow.domain false w args ∧ laidMetH Tryd.prog Rows.gravityClosuresRow.laid w) ∧ sizedMet enc Tryd.prog (fnOf Tryd.prog 5) (OpenSpec.ofChange Rows.gravityClosuresSpec) false w args)
      (Rows.gravityClosuresSpec.post enc Tryd.prog (fnOf Tryd.prog 5) false true false false) :=
  said_of_laid (C := Tryd.checked) (laid := Rows.gravityClosuresRow.laid) (ss := P_law05_GravityClosures.map shP) (by kernel_rfl) own started (by kernel_rfl) hfn5
    (ChangeSpec.witness_shaped (enc := enc) (C := Tryd.checked) (os := os) (X := fun w _ => laidMetH Tryd.prog Rows.gravityClosuresRow.laid w) false (World.laidAll Tryd.prog os Rows.gravityClosuresRow.laid) (zeroArgs P_law05_GravityClosures) 8 (World.laidAll_os _ _ _)
      (World.shaped_of_ZipB (by kernel_rfl) (by kernel_rfl)) (by kernel_rfl) (by kernel_rfl) (by kernel_rfl)
      (by rw [MakeChecks.laidMetH_plain _ _ _ (by kernel_rfl)]; exact laidMet_laidAll _ (by kernel_rfl) (by kernel_rfl))) rfl
    (fun ds h => by
      rw [hps5] at h
      match ds, h with
      | [_], _ => rfl)
    laidOut (by kernel_rfl) (rt := (fnOf Tryd.prog 5).resultTypes.getD 0 0) (by kernel_rfl) (by kernel_rfl) (by kernel_rfl)
    (law_of ok_law05_GravityClosures fun x hx => ⟨(plain_law05_GravityClosures x hx).1, congrArg (fun b => V.p (.bool b)) (plain_law05_GravityClosures x hx).2⟩) globs
theorem GravityClosures_holds : Rows.GravityClosuresSaid :=
  OpenClaim.holds_of_wide 5 (fnOf Tryd.prog 5) rfl rfl rfl rfl rfl rfl rfl ⟨rfl, rfl, rfl, rfl, rfl⟩ rfl rfl rfl rfl rfl (by kernel_rfl) hfn5 (by kernel_rfl)
    (of_decide_eq_true (by kernel_rfl)) (by unfold Func.isWrapper; first | (rw [if_pos (by decide +kernel)]; kernel_rfl) | (rw [if_neg (by decide +kernel)]; exact ⟨rfl, rfl⟩))
    (fun os started H enc _ => lifted_GravityClosures os started H enc)
theorem GravityClosuresCard_holds : Rows.GravityClosuresCardSaid :=
  Claim7.holds_tied_plain_at .later [] [.widerDeep] true (true, "7beca0c3d51d5b13018226e0a3ec850405335d46189a4e3e5247aa211c8b033a") false GravityClosures_holds (fun _ h => by cases h) (by kernel_rfl) (fun _ h => by cases h) gravityClosures_row_tie rfl ⟨rfl, rfl⟩ (by kernel_rfl) rfl
    (fun f fn hf hfn => by
      obtain rfl : f = 5 := Option.some.inj ((show Tryd.prog.funcNamed "cloverleaf/cloverleaflaw05.GravityClosures" = some 5 by kernel_rfl).symm.trans hf) |>.symm
      obtain rfl : fn = fnOf Tryd.prog 5 := (Option.some.inj (hfn5.symm.trans hfn)).symm
      exact ⟨by kernel_rfl, fun j t ht => by
        have hm : t ∈ (fnOf Tryd.prog 5).params.toList := by simpa using Array.mem_of_getElem? ht
        have hall : ((fnOf Tryd.prog 5).params.toList.all fun u => !Tryd.prog.wantsStandIn u) = true := by kernel_rfl
        exact (show Tryd.prog.wantsStandIn t = false by simpa using List.all_eq_true.1 hall t hm)⟩)
    (by kernel_rfl)
end Go.Proofs.YtcecdmdnfmgnfaaDoor
