/- GravityHeights: the given statement is proved: at every input the law returns true, and the input reads as it did. No condition. -/
import Derived.Test.YtcecdmdnfmgnfaaDoorWalkGravityHeights
import Derived.Test.YtcecdmdnfmgnfaaDoorLayB
import Derived.Test.YtcecdmdnfmgnfaaDoorMxUl
import Derived.Test.YtcecdmdnfmgnfaaDoorRows
import Derived.Test.YtcecdmdnfmgnfaaDoorCards
import Derived.Test.YtcecdmdnfmgnfaaDoorTie
import Derived.ProofKit
import Derived.SevenTiedAt
namespace Go.Proofs.YtcecdmdnfmgnfaaDoor
open Go Go.Mx
set_option maxRecDepth 100000
theorem few_of {p0 : List Int} {p1 : List (Int × Int)} (h : cond (!(s_law05_few p1)) true (!(s_law05_fewNumbers p0)) = false) : p1.length ≤ 66 ∧ p0.length ≤ 66 := by
  unfold s_law05_few s_law05_fewNumbers at h
  simp at h
  omega
/-- The plain law. -/
theorem plain_law05_GravityHeights (p0 : List Int) (p1 : List (Int × Int)) (p2 : Int) (_ : okPs P_law05_GravityHeights (p0, p1, p2)) : (∀ p ∈ pre_law05_GravityHeights p0 p1 p2, p) ∧ s_law05_GravityHeights p0 p1 p2 = true := by
  have e : s_gravity_rangesErr p1 = (v_heights p1).2 := rfl
  have hl : p1.length ≤ 66 → lenOk (v_acc p1) := fun h => by unfold lenOk; rw [v_acc_len]; omega
  have hl2 : p1.length ≤ 66 → lenOk (v_res p0 p1 p2) := fun h => by unfold lenOk; simp [v_res]; omega
  have f1 : (cond (!(s_law05_few p1)) true (!(s_law05_fewNumbers p0)) = false) → p1.length ≤ 1000000 := fun h => by have := few_of h; omega
  have f2 : (cond (!(s_law05_few p1)) true (!(s_law05_fewNumbers p0)) = false) → p0.length ≤ 1000000 := fun h => by have := few_of h; omega
  have f3 : (cond (!(s_law05_few p1)) true (!(s_law05_fewNumbers p0)) = false) → lenOk p0 := fun h => by have := few_of h; unfold lenOk; omega
  have f4 : (cond (!(s_law05_few p1)) true (!(s_law05_fewNumbers p0)) = false) → lenOk (v_acc p1) := fun h => hl (few_of h).1
  have f5 : (cond (!(s_law05_few p1)) true (!(s_law05_fewNumbers p0)) = false) → lenOk (v_res p0 p1 p2) := fun h => hl2 (few_of h).1
  have f6 : lenOk ([] : List (Int × Int)) := by simp [lenOk]
  have g1 : (v_heights p1).2 = 0 → v_hok p1 := fun h => tx_heights h
  have g2 : v_reserr p0 p1 p2 = 0 → v_resok p0 p1 p2 := fun h => tx_res h
  unfold pre_law05_GravityHeights s_law05_GravityHeights
  generalize cond (!(s_law05_few p1)) true (!(s_law05_fewNumbers p0)) = a at *
  simp only [List.forall_mem_cons]
  cases a
  · simp only [forall_const] at f1 f2 f3 f4 f5
    rw [e]
    rcases dec0 (a := (p1.length : Int)) (b := 3) with ⟨_, d1, d2, d3, _⟩ | ⟨_, d1, d2, d3, _⟩ <;> rcases int0 (v_heights p1).2 with ⟨b1, b2, b3⟩ | ⟨b1, b2, b3⟩ <;> rcases int0 (v_reserr p0 p1 p2) with ⟨r1, r2, r3⟩ | ⟨r1, r2, r3⟩ <;>
      simp [d1, d2, d3, b1, b2, b3, r1, r2, r3, v_first, s_gravity_unless, f1, f2, f3, f4, f5, f6] <;> first | exact g1 b1 | exact ⟨g1 b1, g2 r1⟩ | exact g2 r1 | skip
  · simp

theorem own : ownKnob Tryd.prog.godebug = none := by kernel_rfl
theorem laidOut : laidOutB Tryd.prog = true := by kernel_rfl
theorem hfn4 : Tryd.prog.funcs[4]? = some (fnOf Tryd.prog 4) := by kernel_rfl
theorem hps4 : (fnOf Tryd.prog 4).params.size = 3 := by kernel_rfl
theorem globs (W : World) (h : laidMetH Tryd.prog Rows.gravityHeightsRow.laid W) : Glob (fun b => b < W.heap.size) W := by
  intro g cs hg
  match g, hg with
  | 0, hg =>
    have e : [.int .i64 1, .int .i64 (-2), .int .i64 1] = cs := Option.some.inj hg
    subst e
    exact glob_ints (zs := [1, -2, 1]) (k := .i64) (t := 25) (e := 3) h (by kernel_rfl) (n := "cloverleaf/gravity.second") (.head _) (by kernel_rfl) (by kernel_rfl) (by kernel_rfl) (by kernel_rfl) (by kernel_rfl)
  | _ + 1, hg => cases hg
theorem lifted_GravityHeights (os : Os) (started : os.Started) (H : Type) (enc : TypeId × Value → H) :
    ReturnsInHanded {} Tryd.checked os 4 .any (fun w args => (Rows.gravityHeightsSpec.pre enc Tryd.prog (fnOf Tryd.prog 4) Rows.gravityHeightsRow.domain false w args ∧ laidMetH Tryd.prog Rows.gravityHeightsRow.laid w) ∧ sizedMet enc Tryd.prog (fnOf Tryd.prog 4) (OpenSpec.ofChange Rows.gravityHeightsSpec) false w args)
      (Rows.gravityHeightsSpec.post enc Tryd.prog (fnOf Tryd.prog 4) false true false false) :=
  said_of_laid (C := Tryd.checked) (laid := Rows.gravityHeightsRow.laid) (ss := P_law05_GravityHeights.map shP) (by kernel_rfl) own started (by kernel_rfl) hfn4
    (ChangeSpec.witness_shaped (enc := enc) (C := Tryd.checked) (os := os) (X := fun w _ => laidMetH Tryd.prog Rows.gravityHeightsRow.laid w) false (World.laidAll Tryd.prog os Rows.gravityHeightsRow.laid) (zeroArgs P_law05_GravityHeights) 8 (World.laidAll_os _ _ _)
      (World.shaped_of_ZipB (by kernel_rfl) (by kernel_rfl)) (by kernel_rfl) (by kernel_rfl) (by kernel_rfl)
      (by rw [MakeChecks.laidMetH_plain _ _ _ (by kernel_rfl)]; exact laidMet_laidAll _ (by kernel_rfl) (by kernel_rfl))) rfl
    (fun ds h => by
      rw [hps4] at h
      match ds, h with
      | [_, _, _], _ => rfl)
    laidOut (by kernel_rfl) (rt := (fnOf Tryd.prog 4).resultTypes.getD 0 0) (by kernel_rfl) (by kernel_rfl) (by kernel_rfl)
    (law_of ok_law05_GravityHeights fun x hx => ⟨(plain_law05_GravityHeights x.1 x.2.1 x.2.2 hx).1, congrArg (fun b => V.p (.bool b)) (plain_law05_GravityHeights x.1 x.2.1 x.2.2 hx).2⟩) globs
theorem GravityHeights_holds : Rows.GravityHeightsSaid :=
  OpenClaim.holds_of_wide 4 (fnOf Tryd.prog 4) rfl rfl rfl rfl rfl rfl rfl ⟨rfl, rfl, rfl, rfl, rfl⟩ rfl rfl rfl rfl rfl (by kernel_rfl) hfn4 (by kernel_rfl)
    (of_decide_eq_true (by kernel_rfl)) (by unfold Func.isWrapper; first | (rw [if_pos (by decide +kernel)]; kernel_rfl) | (rw [if_neg (by decide +kernel)]; exact ⟨rfl, rfl⟩))
    (fun os started H enc _ => lifted_GravityHeights os started H enc)
theorem GravityHeightsCard_holds : Rows.GravityHeightsCardSaid :=
  Claim7.holds_tied_plain_at .later [] [.widerDeep] true (true, "7beca0c3d51d5b13018226e0a3ec850405335d46189a4e3e5247aa211c8b033a") false GravityHeights_holds (fun _ h => by cases h) (by kernel_rfl) (fun _ h => by cases h) gravityHeights_row_tie rfl ⟨rfl, rfl⟩ (by kernel_rfl) rfl
    (fun f fn hf hfn => by
      obtain rfl : f = 4 := Option.some.inj ((show Tryd.prog.funcNamed "cloverleaf/cloverleaflaw05.GravityHeights" = some 4 by kernel_rfl).symm.trans hf) |>.symm
      obtain rfl : fn = fnOf Tryd.prog 4 := (Option.some.inj (hfn4.symm.trans hfn)).symm
      exact ⟨by kernel_rfl, fun j t ht => by
        have hm : t ∈ (fnOf Tryd.prog 4).params.toList := by simpa using Array.mem_of_getElem? ht
        have hall : ((fnOf Tryd.prog 4).params.toList.all fun u => !Tryd.prog.wantsStandIn u) = true := by kernel_rfl
        exact (show Tryd.prog.wantsStandIn t = false by simpa using List.all_eq_true.1 hall t hm)⟩)
    (by kernel_rfl)
end Go.Proofs.YtcecdmdnfmgnfaaDoor
