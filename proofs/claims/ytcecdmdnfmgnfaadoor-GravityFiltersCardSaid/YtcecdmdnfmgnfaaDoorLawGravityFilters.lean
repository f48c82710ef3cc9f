/- GravityFilters: the given statement is proved: at every input the law returns true, and the input reads as it did. No condition. -/
import Derived.Test.YtcecdmdnfmgnfaaDoorWalkGravityFilters
import Derived.Test.YtcecdmdnfmgnfaaDoorLayB
import Derived.Test.YtcecdmdnfmgnfaaDoorMxUl
import Derived.Test.YtcecdmdnfmgnfaaDoorRows
import Derived.Test.YtcecdmdnfmgnfaaDoorCards
import Derived.Test.YtcecdmdnfmgnfaaDoorTie
import Derived.ProofKit
import Derived.SevenTiedAt
namespace Go.Proofs.YtcecdmdnfmgnfaaDoor
open Go Go.Mx
set_option maxRecDepth 100000
theorem l_gn {p0 : List Int} (p1 : Int) (h : v_filerr p0 = 0) : (s_ref05_WithinErr p1 3 = 2 ∧ t_gravity_GainAt p0 p1 = (0, 2)) ∨ (s_ref05_WithinErr p1 3 = 0 ∧ (0 ≤ p1 ∧ p1 ≤ 3) ∧ t_gravity_GainAt p0 p1 = (v_gain p0 p1, 0)) := by
  have e : s_ref05_WithinErr p1 3 = s_gravity_unless (s_gravity_within p1 0 3) 2 := by
    unfold s_ref05_WithinErr s_gravity_unless
    rw [show s_base_Within p1 0 3 = s_gravity_within p1 0 3 from rfl]
    cases s_gravity_within p1 0 3 <;> rfl
  unfold t_gravity_GainAt v_gerr
  rw [e, h]
  cases hw : s_gravity_within p1 0 3
  · exact .inl ⟨rfl, rfl⟩
  · exact .inr ⟨rfl, tx_within.1 hw, rfl⟩
theorem l_fl {p0 : List Int} (p2 : List (Int × Int)) (h : v_filerr p0 = 0) : (∃ e, e ≠ 0 ∧ s_ref05_HeightsErr p2 = e ∧ t_gravity_Filtered p0 p2 = ([], e)) ∨ (s_ref05_HeightsErr p2 = 0 ∧ v_hok p2 ∧ t_gravity_Filtered p0 p2 = (v_fil p0 p2, 0) ∧ lenOk (v_fil p0 p2)) := by
  have e : v_flerr p0 p2 = s_ref05_HeightsErr p2 := by
    unfold v_flerr
    rw [h]
    show v_first [0, (v_heights p2).2] = (v_heights p2).2
    simp only [v_first, bne_self_eq_false, cond_false]
    rcases int0 (v_heights p2).2 with ⟨b1, b2, _⟩ | ⟨b1, b2, _⟩
    · rw [b1]; rfl
    · rw [b2]; rfl
  unfold t_gravity_Filtered
  rw [e]
  rcases int0 (s_ref05_HeightsErr p2) with ⟨b1, b2, _⟩ | ⟨b1, b2, _⟩
  · have hh := tx_heights (show (v_heights p2).2 = 0 from b1)
    refine .inr ⟨b1, hh, by rw [b2]; rfl, lenOk_m ?_⟩
    have := hh.len
    rw [v_fil_len']; omega
  · exact .inl ⟨_, b1, rfl, by rw [b2]; rfl⟩
/-- The plain law. -/
theorem plain_law05_GravityFilters (p0 : List Int) (p1 : Int) (p2 : List (Int × Int)) (_ : okPs P_law05_GravityFilters (p0, p1, p2)) : (∀ p ∈ pre_law05_GravityFilters p0 p1 p2, p) ∧ s_law05_GravityFilters p0 p1 p2 = true := by
  have c0 : s_ref05_CopyFilter p0 = p0 := rfl
  unfold pre_law05_GravityFilters s_law05_GravityFilters
  rw [c0]
  cases hf : cond (!(s_law05_light p0)) true (!(s_law05_few p2))
  · have hl : p0.length ≤ 1000000 ∧ p2.length ≤ 1000000 := by
      unfold s_law05_light s_law05_few at hf
      cases h0 : decide ((p0.length : Int) ≤ 11)
      · rw [h0] at hf; cases hf
      · cases h1 : decide ((p2.length : Int) ≤ 66)
        · rw [h0, h1] at hf; cases hf
        · have := of_decide_eq_true h0
          have := of_decide_eq_true h1
          omega
    obtain ⟨hl1, hl2⟩ := hl
    have hlk : lenOk p0 := lenOk_m (by omega)
    clear hf
    rcases int0 (v_filerr p0) with ⟨b1, b2, _⟩ | ⟨b1, b2, _⟩
    · have hk := tx_fok b1
      have hw := hk.tov_fw
      have hg := l_gn p1 b1
      have hfl := l_fl p2 b1
      have hs : s_gravity_SumOf p0 = (v_fsum p0, 0) := by unfold s_gravity_SumOf; rw [b2]; rfl
      generalize s_gravity_SumOf p0 = S at *
      generalize t_gravity_GainAt p0 p1 = G at *
      generalize t_gravity_Filtered p0 p2 = F at *
      subst hs
      rcases hg with ⟨g1, rfl⟩ | ⟨g1, g2, rfl⟩ <;> rcases hfl with ⟨e, e0, e1, rfl⟩ | ⟨e1, e2, rfl, e3⟩ <;> simp only [List.forall_mem_cons] <;> simp [*]
    · have hg : t_gravity_GainAt p0 p1 = (0, v_filerr p0) := by
        have : v_gerr p0 p1 = v_filerr p0 := by unfold v_gerr; simp only [v_first]; rw [b2]; rfl
        unfold t_gravity_GainAt; rw [this, b2]; rfl
      have hfl : t_gravity_Filtered p0 p2 = ([], v_filerr p0) := by
        have : v_flerr p0 p2 = v_filerr p0 := by unfold v_flerr; simp only [v_first]; rw [b2]; rfl
        unfold t_gravity_Filtered; rw [this, b2]; rfl
      have hs : s_gravity_SumOf p0 = (0, v_filerr p0) := by unfold s_gravity_SumOf; rw [b2]; rfl
      generalize s_gravity_SumOf p0 = S at *
      generalize t_gravity_GainAt p0 p1 = G at *
      generalize t_gravity_Filtered p0 p2 = F at *
      subst hs hg hfl
      simp only [List.forall_mem_cons]
      simp [b1, hl1, hl2, hlk]
  · simp

theorem own : ownKnob Tryd.prog.godebug = none := by kernel_rfl
theorem laidOut : laidOutB Tryd.prog = true := by kernel_rfl
theorem hfn11 : Tryd.prog.funcs[11]? = some (fnOf Tryd.prog 11) := by kernel_rfl
theorem hps11 : (fnOf Tryd.prog 11).params.size = 3 := by kernel_rfl
theorem globs (W : World) (h : laidMetH Tryd.prog Rows.gravityFiltersRow.laid W) : Glob (fun b => b < W.heap.size) W := by
  intro g cs hg
  match g, hg with
  | 0, hg =>
    have e : [.int .i64 1, .int .i64 (-2), .int .i64 1] = cs := Option.some.inj hg
    subst e
    exact glob_ints (zs := [1, -2, 1]) (k := .i64) (t := 25) (e := 3) h (by kernel_rfl) (n := "cloverleaf/gravity.second") (.head _) (by kernel_rfl) (by kernel_rfl) (by kernel_rfl) (by kernel_rfl) (by kernel_rfl)
  | 1, hg =>
    have e : [.int .i64 1, .int .i64 0, .int .i64 (-1), .int .i64 0] = cs := Option.some.inj hg
    subst e
    exact glob_ints (zs := [1, 0, -1, 0]) (k := .i64) (t := 163) (e := 3) h (by kernel_rfl) (n := "cloverleaf/gravity.cosines") (.tail _ (.head _)) (by kernel_rfl) (by kernel_rfl) (by kernel_rfl) (by kernel_rfl) (by kernel_rfl)
  | _ + 2, hg => cases hg
theorem lifted_GravityFilters (os : Os) (started : os.Started) (H : Type) (enc : TypeId × Value → H) :
    ReturnsInHanded {} Tryd.checked os 11 .any (fun w args => (Rows.gravityFiltersSpec.pre enc Tryd.prog (fnOf Tryd.prog 11) Rows.gravityFiltersRow.domain false w args ∧ laidMetH Tryd.prog Rows.gravityFiltersRow.laid w) ∧ sizedMet enc Tryd.prog (fnOf Tryd.prog 11) (OpenSpec.ofChange Rows.gravityFiltersSpec) false w args)
      (Rows.gravityFiltersSpec.post enc Tryd.prog (fnOf Tryd.prog 11) false true false false) :=
  said_of_laid (C := Tryd.checked) (laid := Rows.gravityFiltersRow.laid) (ss := P_law05_GravityFilters.map shP) (by kernel_rfl) own started (by kernel_rfl) hfn11
    (ChangeSpec.witness_shaped (enc := enc) (C := Tryd.checked) (os := os) (X := fun w _ => laidMetH Tryd.prog Rows.gravityFiltersRow.laid w) false (World.laidAll Tryd.prog os Rows.gravityFiltersRow.laid) (zeroArgs P_law05_GravityFilters) 8 (World.laidAll_os _ _ _)
      (World.shaped_of_ZipB (by kernel_rfl) (by kernel_rfl)) (by kernel_rfl) (by kernel_rfl) (by kernel_rfl)
      (by rw [MakeChecks.laidMetH_plain _ _ _ (by kernel_rfl)]; exact laidMet_laidAll _ (by kernel_rfl) (by kernel_rfl))) rfl
    (fun ds h => by
      rw [hps11] at h
      match ds, h with
      | [_, _, _], _ => rfl)
    laidOut (by kernel_rfl) (rt := (fnOf Tryd.prog 11).resultTypes.getD 0 0) (by kernel_rfl) (by kernel_rfl) (by kernel_rfl)
    (law_of ok_law05_GravityFilters fun x hx => ⟨(plain_law05_GravityFilters x.1 x.2.1 x.2.2 hx).1, congrArg (fun b => V.p (.bool b)) (plain_law05_GravityFilters x.1 x.2.1 x.2.2 hx).2⟩) globs
theorem GravityFilters_holds : Rows.GravityFiltersSaid :=
  OpenClaim.holds_of_wide 11 (fnOf Tryd.prog 11) rfl rfl rfl rfl rfl rfl rfl ⟨rfl, rfl, rfl, rfl, rfl⟩ rfl rfl rfl rfl rfl (by kernel_rfl) hfn11 (by kernel_rfl)
    (of_decide_eq_true (by kernel_rfl)) (by unfold Func.isWrapper; first | (rw [if_pos (by decide +kernel)]; kernel_rfl) | (rw [if_neg (by decide +kernel)]; exact ⟨rfl, rfl⟩))
    (fun os started H enc _ => lifted_GravityFilters os started H enc)
theorem GravityFiltersCard_holds : Rows.GravityFiltersCardSaid :=
  Claim7.holds_tied_plain_at .later [] [.widerDeep, .data] true (true, "7beca0c3d51d5b13018226e0a3ec850405335d46189a4e3e5247aa211c8b033a") false GravityFilters_holds (fun _ h => by cases h) (by kernel_rfl) (fun _ h => by cases h) gravityFilters_row_tie rfl ⟨rfl, rfl⟩ (by kernel_rfl) rfl
    (fun f fn hf hfn => by
      obtain rfl : f = 11 := Option.some.inj ((show Tryd.prog.funcNamed "cloverleaf/cloverleaflaw05.GravityFilters" = some 11 by kernel_rfl).symm.trans hf) |>.symm
      obtain rfl : fn = fnOf Tryd.prog 11 := (Option.some.inj (hfn11.symm.trans hfn)).symm
      exact ⟨by kernel_rfl, fun j t ht => by
        have hm : t ∈ (fnOf Tryd.prog 11).params.toList := by simpa using Array.mem_of_getElem? ht
        have hall : ((fnOf Tryd.prog 11).params.toList.all fun u => !Tryd.prog.wantsStandIn u) = true := by kernel_rfl
        exact (show Tryd.prog.wantsStandIn t = false by simpa using List.all_eq_true.1 hall t hm)⟩)
    (by kernel_rfl)
end Go.Proofs.YtcecdmdnfmgnfaaDoor
