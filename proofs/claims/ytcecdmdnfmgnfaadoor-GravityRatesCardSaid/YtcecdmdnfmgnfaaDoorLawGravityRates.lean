/- GravityRates: the given statement is proved: at every input the law returns true, and the input reads as it did. No condition. -/
import Derived.Test.YtcecdmdnfmgnfaaDoorWalkGravityRates
import Derived.Test.YtcecdmdnfmgnfaaDoorLayB
import Derived.Test.YtcecdmdnfmgnfaaDoorMxUl
import Derived.Test.YtcecdmdnfmgnfaaDoorRows
import Derived.Test.YtcecdmdnfmgnfaaDoorCards
import Derived.Test.YtcecdmdnfmgnfaaDoorTie
import Derived.ProofKit
import Derived.SevenTiedAt
namespace Go.Proofs.YtcecdmdnfmgnfaaDoor
open Go Go.Mx
set_option maxRecDepth 100000
theorem v_fb.small {x : Int × Int} (h : v_fb x) : v_small x = true := by
  obtain ⟨h1, h2⟩ := h
  unfold v_small s_gravity_isSized
  rw [show IntKind.i64.wrap (0 - 1000000000) = -1000000000 from rfl, tx_within'.2 h1, decide_eq_true h2.2]; rfl
theorem l_rate (p0 : List (Int × (Int × Int))) : (∃ e, e ≠ 0 ∧ (v_visits p0).2 = e ∧ t_gravity_RateOf p0 = (((0, 0), (0, 0)), e)) ∨ ((v_visits p0).2 = 0 ∧ v_vok p0 ∧ ((∃ s, t_gravity_RateOf p0 = (s, 0) ∧ t_ref05_Rate p0 = (s, true)) ∨ (∃ s, t_gravity_RateOf p0 = (((0, 0), (0, 0)), 13) ∧ t_ref05_Rate p0 = (s, false)))) := by
  unfold t_gravity_RateOf t_ref05_Rate
  rcases int0 (v_visits p0).2 with ⟨b1, b2, _⟩ | ⟨b1, b2, _⟩
  · have k := tx_visits b1
    obtain ⟨f1, f2⟩ := (v_rates_best k).fb k
    refine .inr ⟨b1, k, ?_⟩
    rw [b2]
    cases decide (v_le (v_rates p0).1 (v_rates p0).2)
    · exact .inr ⟨_, rfl, rfl⟩
    · refine .inl ⟨(v_low (v_rates p0).1, v_low (v_rates p0).2), ?_, rfl⟩
      unfold v_span
      rw [(v_low_fb f1).small, (v_low_fb f2).small]; rfl
  · exact .inl ⟨_, b1, rfl, by rw [b2]; rfl⟩
theorem l_crate (p0 : List (Int × (Int × Int))) (p1 : Int × Int) : (∃ e, e ≠ 0 ∧ (v_visits p0).2 = e ∧ t_gravity_CheckRate p0 p1 = (((0, 0), (0, 0)), e)) ∨ ((v_visits p0).2 = 0 ∧ ((∃ e, e ≠ 0 ∧ v_rerr p1 = e ∧ t_gravity_CheckRate p0 p1 = (((0, 0), (0, 0)), e)) ∨ (v_rerr p1 = 0 ∧ v_rok p1 ∧ t_gravity_CheckRate p0 p1 = v_crate p0 p1))) := by
  unfold t_gravity_CheckRate
  rcases int0 (v_visits p0).2 with ⟨b1, b2, _⟩ | ⟨b1, b2, _⟩
  · rcases int0 (v_rerr p1) with ⟨c1, c2, _⟩ | ⟨c1, c2, _⟩
    · exact .inr ⟨b1, .inr ⟨c1, tx_rerr c1, by rw [b2, c2]; rfl⟩⟩
    · exact .inr ⟨b1, .inl ⟨_, c1, rfl, by rw [b2, c2]; rfl⟩⟩
  · exact .inl ⟨_, b1, rfl, by rw [b2]; rfl⟩
/-- The plain law. -/
theorem plain_law05_GravityRates (p0 : List (Int × (Int × Int))) (p1 : Int × Int) (hk : okPs P_law05_GravityRates (p0, p1)) : (∀ p ∈ pre_law05_GravityRates p0 p1, p) ∧ s_law05_GravityRates p0 p1 = true := by
  have hg : p1.2 > 0 → v_gok p1.1 p1.2 := by
    intro h
    have h2 : (IntKind.i64.min ≤ p1.1 ∧ p1.1 ≤ IntKind.i64.max) ∧ (IntKind.i64.min ≤ p1.2 ∧ p1.2 ≤ IntKind.i64.max) := hk.2
    have e1 : IntKind.i64.min = -9223372036854775808 := rfl
    have e2 : IntKind.i64.max = 9223372036854775807 := rfl
    rw [e1, e2] at h2
    exact ⟨h2.1, by unfold v_fit; omega, .inr (by omega)⟩
  unfold pre_law05_GravityRates s_law05_GravityRates
  cases hf : decide ((p0.length : Int) > 12)
  · have hl : p0.length ≤ 1000000 := by have := of_decide_eq_false hf; omega
    clear hf
    have hG : (p1.2 > 0 → v_gok p1.1 p1.2) = True := eq_true hg
    have hr := l_rate p0
    have hc := l_crate p0 p1
    generalize t_gravity_RateOf p0 = RO at *
    generalize t_ref05_Rate p0 = RR at *
    generalize t_gravity_CheckRate p0 p1 = CR at *
    generalize v_gok p1.1 p1.2 = GK at *
    rcases hr with ⟨e, g0, g1, rfl⟩ | ⟨g1, k, g2⟩
    · rcases hc with ⟨e', q0, q1, rfl⟩ | ⟨q1, _⟩
      · have : e' = e := q1.symm.trans g1
        subst this
        simp only [List.forall_mem_cons]
        simp [g0, g1, hl]
        exact hg
      · exact absurd (g1.symm.trans q1) g0
    · rcases hc with ⟨e', q0, q1, q2⟩ | ⟨_, ⟨e', q0, q1, rfl⟩ | ⟨q1, q2, rfl⟩⟩
      · exact absurd (q1.symm.trans g1) q0
      · rcases g2 with ⟨s, rfl, rfl⟩ | ⟨s, rfl, rfl⟩ <;> simp only [List.forall_mem_cons] <;> simp [g1, q0, q1, hl, k] <;> exact hg
      · rcases g2 with ⟨s, rfl, rfl⟩ | ⟨s, rfl, rfl⟩ <;> simp only [List.forall_mem_cons] <;> simp [g1, q1, q2, hl, k] <;> exact hg
  · simp

theorem own : ownKnob Tryd.prog.godebug = none := by kernel_rfl
theorem laidOut : laidOutB Tryd.prog = true := by kernel_rfl
theorem hfn7 : Tryd.prog.funcs[7]? = some (fnOf Tryd.prog 7) := by kernel_rfl
theorem hps7 : (fnOf Tryd.prog 7).params.size = 2 := by kernel_rfl
theorem globs (W : World) (h : laidMetH Tryd.prog Rows.gravityRatesRow.laid W) : Glob (fun b => b < W.heap.size) W := by
  intro g cs hg
  match g, hg with
  | 0, hg =>
    have e : [.int .i64 1, .int .i64 (-2), .int .i64 1] = cs := Option.some.inj hg
    subst e
    exact glob_ints (zs := [1, -2, 1]) (k := .i64) (t := 25) (e := 3) h (by kernel_rfl) (n := "cloverleaf/gravity.second") (.head _) (by kernel_rfl) (by kernel_rfl) (by kernel_rfl) (by kernel_rfl) (by kernel_rfl)
  | _ + 1, hg => cases hg
theorem lifted_GravityRates (os : Os) (started : os.Started) (H : Type) (enc : TypeId × Value → H) :
    ReturnsInHanded {} Tryd.checked os 7 .any (fun w args => (Rows.gravityRatesSpec.pre enc Tryd.prog (fnOf Tryd.prog 7) Rows.gravityRatesRow.domain false w args ∧ laidMetH Tryd.prog Rows.gravityRatesRow.laid w) ∧ sizedMet enc Tryd.prog (fnOf Tryd.prog 7) (OpenSpec.ofChange Rows.gravityRatesSpec) false w args)
      (Rows.gravityRatesSpec.post enc Tryd.prog (fnOf Tryd.prog 7) false true false false) :=
  said_of_laid (C := Tryd.checked) (laid := Rows.gravityRatesRow.laid) (ss := P_law05_GravityRates.map shP) (by kernel_rfl) own started (by kernel_rfl) hfn7
    (ChangeSpec.witness_shaped (enc := enc) (C := Tryd.checked) (os := os) (X := fun w _ => laidMetH Tryd.prog Rows.gravityRatesRow.laid w) false (World.laidAll Tryd.prog os Rows.gravityRatesRow.laid) (zeroArgs P_law05_GravityRates) 8 (World.laidAll_os _ _ _)
      (World.shaped_of_ZipB (by kernel_rfl) (by kernel_rfl)) (by kernel_rfl) (by kernel_rfl) (by kernel_rfl)
      (by rw [MakeChecks.laidMetH_plain _ _ _ (by kernel_rfl)]; exact laidMet_laidAll _ (by kernel_rfl) (by kernel_rfl))) rfl
    (fun ds h => by
      rw [hps7] at h
      match ds, h with
      | [_, _], _ => rfl)
    laidOut (by kernel_rfl) (rt := (fnOf Tryd.prog 7).resultTypes.getD 0 0) (by kernel_rfl) (by kernel_rfl) (by kernel_rfl)
    (law_of ok_law05_GravityRates fun x hx => ⟨(plain_law05_GravityRates x.1 x.2 hx).1, congrArg (fun b => V.p (.bool b)) (plain_law05_GravityRates x.1 x.2 hx).2⟩) globs
theorem GravityRates_holds : Rows.GravityRatesSaid :=
  OpenClaim.holds_of_wide 7 (fnOf Tryd.prog 7) rfl rfl rfl rfl rfl rfl rfl ⟨rfl, rfl, rfl, rfl, rfl⟩ rfl rfl rfl rfl rfl (by kernel_rfl) hfn7 (by kernel_rfl)
    (of_decide_eq_true (by kernel_rfl)) (by unfold Func.isWrapper; first | (rw [if_pos (by decide +kernel)]; kernel_rfl) | (rw [if_neg (by decide +kernel)]; exact ⟨rfl, rfl⟩))
    (fun os started H enc _ => lifted_GravityRates os started H enc)
theorem GravityRatesCard_holds : Rows.GravityRatesCardSaid :=
  Claim7.holds_tied_plain_at .later [] [.widerDeep] true (true, "7beca0c3d51d5b13018226e0a3ec850405335d46189a4e3e5247aa211c8b033a") false GravityRates_holds (fun _ h => by cases h) (by kernel_rfl) (fun _ h => by cases h) gravityRates_row_tie rfl ⟨rfl, rfl⟩ (by kernel_rfl) rfl
    (fun f fn hf hfn => by
      obtain rfl : f = 7 := Option.some.inj ((show Tryd.prog.funcNamed "cloverleaf/cloverleaflaw05.GravityRates" = some 7 by kernel_rfl).symm.trans hf) |>.symm
      obtain rfl : fn = fnOf Tryd.prog 7 := (Option.some.inj (hfn7.symm.trans hfn)).symm
      exact ⟨by kernel_rfl, fun j t ht => by
        have hm : t ∈ (fnOf Tryd.prog 7).params.toList := by simpa using Array.mem_of_getElem? ht
        have hall : ((fnOf Tryd.prog 7).params.toList.all fun u => !Tryd.prog.wantsStandIn u) = true := by kernel_rfl
        exact (show Tryd.prog.wantsStandIn t = false by simpa using List.all_eq_true.1 hall t hm)⟩)
    (by kernel_rfl)
end Go.Proofs.YtcecdmdnfmgnfaaDoor
