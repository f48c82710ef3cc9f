/- GravityNets: the given statement is proved: at every input the law returns true, and the input reads as it did. No condition. -/
import Derived.Test.YtcecdmdnfmgnfaaDoorWalkGravityNets
import Derived.Test.YtcecdmdnfmgnfaaDoorLayB
import Derived.Test.YtcecdmdnfmgnfaaDoorMxUl
import Derived.Test.YtcecdmdnfmgnfaaDoorRows
import Derived.Test.YtcecdmdnfmgnfaaDoorCards
import Derived.Test.YtcecdmdnfmgnfaaDoorTie
import Derived.ProofKit
import Derived.SevenTiedAt
namespace Go.Proofs.YtcecdmdnfmgnfaaDoor
open Go Go.Mx
set_option maxRecDepth 100000
theorem l_nets (p0 : Int × List (Int × Int × Int × Int)) (p1 : List Int) : (∃ i e, e ≠ 0 ∧ v_net p0 = (i, e) ∧ v_vals p0 = ([], e) ∧ v_ckv p0 p1 = (0, e)) ∨ (∃ i g, v_net p0 = (i, 0) ∧ v_nokI p0.1 p0.2 ∧ lenOk g ∧ ((v_grt p0.1 p0.2 = (g, true) ∧ v_vals p0 = (g, 0)) ∨ (v_grt p0.1 p0.2 = (g, false) ∧ v_vals p0 = ([], 13)))) := by
  rcases int0 (v_net p0).2 with ⟨b1, b2, _⟩ | ⟨b1, b2, _⟩
  · have hn := tx_net b1
    refine .inr ⟨(v_net p0).1, (v_grt p0.1 p0.2).1, Prod.ext rfl b1, hn, ?_, ?_⟩
    · have := (v_lowr_len (v_bnd p0.2) ((List.replicate p0.1.toNat (0 : Int)).length + 1) (List.replicate p0.1.toNat 0, List.replicate p0.1.toNat true)).1
      have h8 := hn.1.n8
      show lenOk (v_lowr _ _ _).2.1
      simp only [List.length_replicate] at this ⊢
      exact lenOk_le (n := 8) (by omega) (by decide)
    · unfold v_vals
      rw [b2]
      cases hg : (v_grt p0.1 p0.2).2
      · exact .inr ⟨Prod.ext rfl hg, rfl⟩
      · exact .inl ⟨Prod.ext rfl hg, rfl⟩
  · refine .inl ⟨(v_net p0).1, (v_net p0).2, b1, rfl, ?_, ?_⟩
    · unfold v_vals; rw [b2]; rfl
    · have e : v_valerr p0 p1 = (v_net p0).2 := by
        unfold v_valerr; simp only [v_first]; rw [b2]; rfl
      unfold v_ckv; rw [e, b2]; rfl
/-- The plain law. -/
theorem plain_law05_GravityNets (p0 : Int × List (Int × Int × Int × Int)) (p1 : List Int) (_ : okPs P_law05_GravityNets (p0, p1)) : (∀ p ∈ pre_law05_GravityNets p0 p1, p) ∧ s_law05_GravityNets p0 p1 = true := by
  unfold pre_law05_GravityNets s_law05_GravityNets
  have hc : s_ref05_CopyNet p0 = p0 := by unfold s_ref05_CopyNet; simp
  rw [hc]
  cases hf : (cond (!(s_law05_fewTies p0)) true (decide ((p1.length : Int) > 10)))
  · have hl : p0.2.length ≤ 14 ∧ p1.length ≤ 10 := by
      unfold s_law05_fewTies at hf
      cases h1 : decide ((p0.2.length : Int) ≤ 14) <;> rw [h1] at hf
      · cases hf
      · have h2 := of_decide_eq_true h1
        have h3 := of_decide_eq_false hf
        omega
    obtain ⟨hl1, hl2⟩ := hl
    have h1 : (([] : List (Int × Int × Int × Int)).length + p0.2.length) * 32 ≤ 140737488355328 := by simp; omega
    have h2 : p1.length ≤ 1000000 := by omega
    rcases l_nets p0 p1 with ⟨i, e, g0, g1, g2, g3⟩ | ⟨i, g, g1, g2, g3, ⟨g4, g5⟩ | ⟨g4, g5⟩⟩
    · rw [g1, g2, g3]
      simp only [List.forall_mem_cons]
      simp_all
    · rw [g1, g4, g5]
      generalize v_ckv p0 p1 = C at *
      simp only [List.forall_mem_cons, v_told]
      simp_all
    · rw [g1, g4, g5]
      generalize v_ckv p0 p1 = C at *
      simp only [List.forall_mem_cons, v_told]
      simp_all
  · simp only [List.forall_mem_cons]; simp

theorem own : ownKnob Tryd.prog.godebug = none := by kernel_rfl
theorem laidOut : laidOutB Tryd.prog = true := by kernel_rfl
theorem hfn6 : Tryd.prog.funcs[6]? = some (fnOf Tryd.prog 6) := by kernel_rfl
theorem hps6 : (fnOf Tryd.prog 6).params.size = 2 := by kernel_rfl
theorem globs (W : World) (h : laidMetH Tryd.prog Rows.gravityNetsRow.laid W) : Glob (fun b => b < W.heap.size) W := by
  intro g cs hg
  match g, hg with
  | 0, hg =>
    have e : [.int .i64 1, .int .i64 (-2), .int .i64 1] = cs := Option.some.inj hg
    subst e
    exact glob_ints (zs := [1, -2, 1]) (k := .i64) (t := 25) (e := 3) h (by kernel_rfl) (n := "cloverleaf/gravity.second") (.head _) (by kernel_rfl) (by kernel_rfl) (by kernel_rfl) (by kernel_rfl) (by kernel_rfl)
  | _ + 1, hg => cases hg
theorem lifted_GravityNets (os : Os) (started : os.Started) (H : Type) (enc : TypeId × Value → H) :
    ReturnsInHanded {} Tryd.checked os 6 .any (fun w args => (Rows.gravityNetsSpec.pre enc Tryd.prog (fnOf Tryd.prog 6) Rows.gravityNetsRow.domain false w args ∧ laidMetH Tryd.prog Rows.gravityNetsRow.laid w) ∧ sizedMet enc Tryd.prog (fnOf Tryd.prog 6) (OpenSpec.ofChange Rows.gravityNetsSpec) false w args)
      (Rows.gravityNetsSpec.post enc Tryd.prog (fnOf Tryd.prog 6) false true false false) :=
  said_of_laid (C := Tryd.checked) (laid := Rows.gravityNetsRow.laid) (ss := P_law05_GravityNets.map shP) (by kernel_rfl) own started (by kernel_rfl) hfn6
    (ChangeSpec.witness_shaped (enc := enc) (C := Tryd.checked) (os := os) (X := fun w _ => laidMetH Tryd.prog Rows.gravityNetsRow.laid w) false (World.laidAll Tryd.prog os Rows.gravityNetsRow.laid) (zeroArgs P_law05_GravityNets) 8 (World.laidAll_os _ _ _)
      (World.shaped_of_ZipB (by kernel_rfl) (by kernel_rfl)) (by kernel_rfl) (by kernel_rfl) (by kernel_rfl)
      (by rw [MakeChecks.laidMetH_plain _ _ _ (by kernel_rfl)]; exact laidMet_laidAll _ (by kernel_rfl) (by kernel_rfl))) rfl
    (fun ds h => by
      rw [hps6] at h
      match ds, h with
      | [_, _], _ => rfl)
    laidOut (by kernel_rfl) (rt := (fnOf Tryd.prog 6).resultTypes.getD 0 0) (by kernel_rfl) (by kernel_rfl) (by kernel_rfl)
    (law_of ok_law05_GravityNets fun x hx => ⟨(plain_law05_GravityNets x.1 x.2 hx).1, congrArg (fun b => V.p (.bool b)) (plain_law05_GravityNets x.1 x.2 hx).2⟩) globs
theorem GravityNets_holds : Rows.GravityNetsSaid :=
  OpenClaim.holds_of_wide 6 (fnOf Tryd.prog 6) rfl rfl rfl rfl rfl rfl rfl ⟨rfl, rfl, rfl, rfl, rfl⟩ rfl rfl rfl rfl rfl (by kernel_rfl) hfn6 (by kernel_rfl)
    (of_decide_eq_true (by kernel_rfl)) (by unfold Func.isWrapper; first | (rw [if_pos (by decide +kernel)]; kernel_rfl) | (rw [if_neg (by decide +kernel)]; exact ⟨rfl, rfl⟩))
    (fun os started H enc _ => lifted_GravityNets os started H enc)
theorem GravityNetsCard_holds : Rows.GravityNetsCardSaid :=
  Claim7.holds_tied_plain_at .later [] [.widerDeep] true (true, "7beca0c3d51d5b13018226e0a3ec850405335d46189a4e3e5247aa211c8b033a") false GravityNets_holds (fun _ h => by cases h) (by kernel_rfl) (fun _ h => by cases h) gravityNets_row_tie rfl ⟨rfl, rfl⟩ (by kernel_rfl) rfl
    (fun f fn hf hfn => by
      obtain rfl : f = 6 := Option.some.inj ((show Tryd.prog.funcNamed "cloverleaf/cloverleaflaw05.GravityNets" = some 6 by kernel_rfl).symm.trans hf) |>.symm
      obtain rfl : fn = fnOf Tryd.prog 6 := (Option.some.inj (hfn6.symm.trans hfn)).symm
      exact ⟨by kernel_rfl, fun j t ht => by
        have hm : t ∈ (fnOf Tryd.prog 6).params.toList := by simpa using Array.mem_of_getElem? ht
        have hall : ((fnOf Tryd.prog 6).params.toList.all fun u => !Tryd.prog.wantsStandIn u) = true := by kernel_rfl
        exact (show Tryd.prog.wantsStandIn t = false by simpa using List.all_eq_true.1 hall t hm)⟩)
    (by kernel_rfl)
end Go.Proofs.YtcecdmdnfmgnfaaDoor
