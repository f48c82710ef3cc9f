/- GravityComposes: the given statement is proved: at every input the law returns true, and the input reads as it did. No condition. -/
import Derived.Test.YtcecdmdnfmgnfaaDoorWalkGravityComposes
import Derived.Test.YtcecdmdnfmgnfaaDoorLayB
import Derived.Test.YtcecdmdnfmgnfaaDoorMxUl
import Derived.Test.YtcecdmdnfmgnfaaDoorRows
import Derived.Test.YtcecdmdnfmgnfaaDoorCards
import Derived.Test.YtcecdmdnfmgnfaaDoorTie
import Derived.ProofKit
import Derived.SevenTiedAt
namespace Go.Proofs.YtcecdmdnfmgnfaaDoor
open Go Go.Mx
set_option maxRecDepth 100000
theorem l_red (a b c : Int) : (s_ref05_ReducedErr a b c = 2 ∧ v_redok a b c = false ∧ t_gravity_ReducedOf a b c = ((0, 0), 2)) ∨ (s_ref05_ReducedErr a b c = 0 ∧ v_redok a b c = true ∧ ((∃ f, t_gravity_ReducedOf a b c = (f, 0) ∧ t_ref05_Reduced a b c = (f, true)) ∨ (t_gravity_ReducedOf a b c = ((0, 0), 8) ∧ t_ref05_Reduced a b c = ((0, 0), false)))) := by
  have e : s_ref05_ReducedErr a b c = cond (v_redok a b c) 0 2 := by
    unfold s_ref05_ReducedErr v_redok s_gravity_isSized
    show cond (cond (cond (!(s_gravity_within a (-1000000) 1000000)) true (!(s_gravity_within b (-10000) 10000))) true (!(s_gravity_within c 0 1000))) 2 0 = cond (cond (cond (s_gravity_within a (-1000000) 1000000) (s_gravity_within b (-10000) 10000) false) (s_gravity_within c 0 1000) false) 0 2
    cases s_gravity_within a (-1000000) 1000000 <;> cases s_gravity_within b (-10000) 10000 <;> cases s_gravity_within c 0 1000 <;> rfl
  cases h : v_redok a b c
  · exact .inl ⟨by rw [e, h]; rfl, rfl, by unfold t_gravity_ReducedOf; rw [h]; rfl⟩
  · refine .inr ⟨by rw [e, h]; rfl, rfl, ?_⟩
    unfold t_gravity_ReducedOf t_ref05_Reduced
    rw [h]
    cases v_small (v_low (v_redn a b c, 100000))
    · exact .inr ⟨rfl, rfl⟩
    · exact .inl ⟨_, rfl, rfl⟩
theorem l_com (p0 p1 : List Int) : (∃ e, e ≠ 0 ∧ v_filerr p0 = e ∧ t_gravity_Composed p0 p1 = ([], e)) ∨ (∃ e, e ≠ 0 ∧ v_filerr p0 = 0 ∧ v_filerr p1 = e ∧ t_gravity_Composed p0 p1 = ([], e)) ∨ (v_filerr p0 = 0 ∧ v_filerr p1 = 0 ∧ v_fw p0 ∧ v_fw p1 ∧ ((t_gravity_Composed p0 p1 = ([], 8) ∧ t_ref05_Composed p0 p1 = ([], false)) ∨ (∃ l : List Int, lenOk l ∧ t_gravity_Composed p0 p1 = (l, 0) ∧ t_ref05_Composed p0 p1 = (l, true)))) := by
  by_cases h0 : v_filerr p0 = 0
  · by_cases h1 : v_filerr p1 = 0
    · refine .inr (.inr ⟨h0, h1, (tx_fok h0).tov_fw, (tx_fok h1).tov_fw, ?_⟩)
      have hl := v_conv_len p0 p1
      have a9 := (tx_fok h0).nine
      have b9 := (tx_fok h1).nine
      unfold t_gravity_Composed t_ref05_Composed v_cerr
      rw [h0, h1]
      rcases Int.lt_or_le 9 ((p0.length : Int) + p1.length - 1) with c | c
      · rw [decide_eq_false (show ¬ (p0.length : Int) + p1.length - 1 ≤ 9 by omega), decide_eq_true (show (p0.length : Int) + p1.length - 1 > 9 by omega)]
        exact .inl ⟨rfl, rfl⟩
      · rw [decide_eq_true c, decide_eq_false (show ¬ (p0.length : Int) + p1.length - 1 > 9 by omega)]
        cases v_any_slices_ContainsFuncint_int__gravity_Composed_1 (v_conv p0 p1)
        · exact .inr ⟨_, lenOk_m (l := v_conv p0 p1) (by omega), rfl, rfl⟩
        · exact .inl ⟨rfl, rfl⟩
    · refine .inr (.inl ⟨_, h1, h0, rfl, ?_⟩)
      have e : v_cerr p0 p1 = v_filerr p1 := by
        unfold v_cerr; rw [h0]
        simp only [v_first, bne_self_eq_false, cond_false, show (v_filerr p1 != 0) = true from bne_iff_ne.2 h1, cond_true]
      unfold t_gravity_Composed
      rw [e, show (v_filerr p1 != 0) = true from bne_iff_ne.2 h1]; rfl
  · refine .inl ⟨_, h0, rfl, ?_⟩
    have e : v_cerr p0 p1 = v_filerr p0 := by
      unfold v_cerr
      simp only [v_first, show (v_filerr p0 != 0) = true from bne_iff_ne.2 h0, cond_true]
    unfold t_gravity_Composed
    rw [e, show (v_filerr p0 != 0) = true from bne_iff_ne.2 h0]; rfl
/-- The plain law. -/
theorem plain_law05_GravityComposes (p0 p1 : List Int) (p2 : Int × (Int × Int)) (_ : okPs P_law05_GravityComposes (p0, p1, p2)) : (∀ p ∈ pre_law05_GravityComposes p0 p1 p2, p) ∧ s_law05_GravityComposes p0 p1 p2 = true := by
  have c0 : s_ref05_CopyFilter p0 = p0 := rfl
  have c1 : s_ref05_CopyFilter p1 = p1 := rfl
  unfold pre_law05_GravityComposes s_law05_GravityComposes
  rw [c0, c1]
  cases hf : cond (!(s_law05_light p0)) true (!(s_law05_light p1))
  · have hl : p0.length ≤ 1000000 ∧ p1.length ≤ 1000000 := by
      unfold s_law05_light at hf
      cases h0 : decide ((p0.length : Int) ≤ 11)
      · rw [h0] at hf; cases hf
      · cases h1 : decide ((p1.length : Int) ≤ 11)
        · rw [h0, h1] at hf; cases hf
        · have := of_decide_eq_true h0
          have := of_decide_eq_true h1
          omega
    clear hf
    rcases l_red p2.1 p2.2.1 p2.2.2 with ⟨r1, r2, r3⟩ | ⟨r1, r2, ⟨f, r3, r4⟩ | ⟨r3, r4⟩⟩ <;>
    rcases l_com p0 p1 with ⟨e, g0, g1, g2⟩ | ⟨e, g0, g1, g2, g3⟩ | ⟨g1, g2, w0, w1, ⟨g3, g4⟩ | ⟨l, g3, g4, g5⟩⟩ <;>
    simp only [r1, r2, r3, *] <;> simp only [List.forall_mem_cons] <;> simp [*]
  · simp

theorem own : ownKnob Tryd.prog.godebug = none := by kernel_rfl
theorem laidOut : laidOutB Tryd.prog = true := by kernel_rfl
theorem hfn3 : Tryd.prog.funcs[3]? = some (fnOf Tryd.prog 3) := by kernel_rfl
theorem hps3 : (fnOf Tryd.prog 3).params.size = 3 := by kernel_rfl
theorem globs (W : World) (h : laidMetH Tryd.prog Rows.gravityComposesRow.laid W) : Glob (fun b => b < W.heap.size) W := by
  intro g cs hg
  match g, hg with
  | 0, hg =>
    have e : [.int .i64 1, .int .i64 (-2), .int .i64 1] = cs := Option.some.inj hg
    subst e
    exact glob_ints (zs := [1, -2, 1]) (k := .i64) (t := 25) (e := 3) h (by kernel_rfl) (n := "cloverleaf/gravity.second") (.head _) (by kernel_rfl) (by kernel_rfl) (by kernel_rfl) (by kernel_rfl) (by kernel_rfl)
  | _ + 1, hg => cases hg
theorem lifted_GravityComposes (os : Os) (started : os.Started) (H : Type) (enc : TypeId × Value → H) :
    ReturnsInHanded {} Tryd.checked os 3 .any (fun w args => (Rows.gravityComposesSpec.pre enc Tryd.prog (fnOf Tryd.prog 3) Rows.gravityComposesRow.domain false w args ∧ laidMetH Tryd.prog Rows.gravityComposesRow.laid w) ∧ sizedMet enc Tryd.prog (fnOf Tryd.prog 3) (OpenSpec.ofChange Rows.gravityComposesSpec) false w args)
      (Rows.gravityComposesSpec.post enc Tryd.prog (fnOf Tryd.prog 3) false true false false) :=
  said_of_laid (C := Tryd.checked) (laid := Rows.gravityComposesRow.laid) (ss := P_law05_GravityComposes.map shP) (by kernel_rfl) own started (by kernel_rfl) hfn3
    (ChangeSpec.witness_shaped (enc := enc) (C := Tryd.checked) (os := os) (X := fun w _ => laidMetH Tryd.prog Rows.gravityComposesRow.laid w) false (World.laidAll Tryd.prog os Rows.gravityComposesRow.laid) (zeroArgs P_law05_GravityComposes) 8 (World.laidAll_os _ _ _)
      (World.shaped_of_ZipB (by kernel_rfl) (by kernel_rfl)) (by kernel_rfl) (by kernel_rfl) (by kernel_rfl)
      (by rw [MakeChecks.laidMetH_plain _ _ _ (by kernel_rfl)]; exact laidMet_laidAll _ (by kernel_rfl) (by kernel_rfl))) rfl
    (fun ds h => by
      rw [hps3] at h
      match ds, h with
      | [_, _, _], _ => rfl)
    laidOut (by kernel_rfl) (rt := (fnOf Tryd.prog 3).resultTypes.getD 0 0) (by kernel_rfl) (by kernel_rfl) (by kernel_rfl)
    (law_of ok_law05_GravityComposes fun x hx => ⟨(plain_law05_GravityComposes x.1 x.2.1 x.2.2 hx).1, congrArg (fun b => V.p (.bool b)) (plain_law05_GravityComposes x.1 x.2.1 x.2.2 hx).2⟩) globs
theorem GravityComposes_holds : Rows.GravityComposesSaid :=
  OpenClaim.holds_of_wide 3 (fnOf Tryd.prog 3) rfl rfl rfl rfl rfl rfl rfl ⟨rfl, rfl, rfl, rfl, rfl⟩ rfl rfl rfl rfl rfl (by kernel_rfl) hfn3 (by kernel_rfl)
    (of_decide_eq_true (by kernel_rfl)) (by unfold Func.isWrapper; first | (rw [if_pos (by decide +kernel)]; kernel_rfl) | (rw [if_neg (by decide +kernel)]; exact ⟨rfl, rfl⟩))
    (fun os started H enc _ => lifted_GravityComposes os started H enc)
theorem GravityComposesCard_holds : Rows.GravityComposesCardSaid :=
  Claim7.holds_tied_plain_at .later [] [.widerDeep] true (true, "7beca0c3d51d5b13018226e0a3ec850405335d46189a4e3e5247aa211c8b033a") false GravityComposes_holds (fun _ h => by cases h) (by kernel_rfl) (fun _ h => by cases h) gravityComposes_row_tie rfl ⟨rfl, rfl⟩ (by kernel_rfl) rfl
    (fun f fn hf hfn => by
      obtain rfl : f = 3 := Option.some.inj ((show Tryd.prog.funcNamed "cloverleaf/cloverleaflaw05.GravityComposes" = some 3 by kernel_rfl).symm.trans hf) |>.symm
      obtain rfl : fn = fnOf Tryd.prog 3 := (Option.some.inj (hfn3.symm.trans hfn)).symm
      exact ⟨by kernel_rfl, fun j t ht => by
        have hm : t ∈ (fnOf Tryd.prog 3).params.toList := by simpa using Array.mem_of_getElem? ht
        have hall : ((fnOf Tryd.prog 3).params.toList.all fun u => !Tryd.prog.wantsStandIn u) = true := by kernel_rfl
        exact (show Tryd.prog.wantsStandIn t = false by simpa using List.all_eq_true.1 hall t hm)⟩)
    (by kernel_rfl)
end Go.Proofs.YtcecdmdnfmgnfaaDoor
