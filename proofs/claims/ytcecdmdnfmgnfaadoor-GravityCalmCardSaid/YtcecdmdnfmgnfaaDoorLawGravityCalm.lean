/- GravityCalm: the given statement is proved: at every input the law returns true, and the input reads as it did. No condition. -/
import Derived.Test.YtcecdmdnfmgnfaaDoorWalkGravityCalm
import Derived.Test.YtcecdmdnfmgnfaaDoorLayB
import Derived.Test.YtcecdmdnfmgnfaaDoorMxUl
import Derived.Test.YtcecdmdnfmgnfaaDoorRows
import Derived.Test.YtcecdmdnfmgnfaaDoorCards
import Derived.Test.YtcecdmdnfmgnfaaDoorTie
import Derived.ProofKit
import Derived.SevenTiedAt
namespace Go.Proofs.YtcecdmdnfmgnfaaDoor
open Go Go.Mx
set_option maxRecDepth 100000
theorem v_upd_none2 {s : Bool × Int × Int} {b e : Int} (h : (v_upd s b e).1 = false) : v_upd s b e = s := by
  unfold v_upd at h ⊢
  split at h
  · cases h
  · rename_i hc
    exact if_neg hc
theorem v_calm2_none2 : ∀ (E : List Int) (b : Int) (s : Bool × Int × Int), (v_calm2 E b s).1 = false → v_calm2 E b s = s
  | [], _, _, _ => rfl
  | e :: r, b, s, h => by
    have g := v_calm2_none2 r (e + 1) _ h
    rw [v_calm2_cons] at h ⊢
    rw [g] at h ⊢
    exact v_upd_none2 h
theorem v_rough_all {m : Int} : ∀ (l : List (Int × Int)) (i : Int), (∀ x, i ≤ x → x < i + l.length → x ∈ v_rough m i l) → (v_rough m i l).length = l.length
  | [], _, _ => rfl
  | y :: r, i, h => by
    have h0 := h i (Int.le_refl i) (by simp only [List.length_cons]; omega)
    have hge := v_rough_ge (m := m) r (i + 1)
    rw [v_rough_cons] at h0 ⊢
    cases hc : decide (IntKind.i64.wrap (y.2 - y.1) > m)
    · rw [hc] at h0
      have := (hge i h0).1; omega
    · simp only [cond_true, List.length_cons]
      rw [v_rough_all r (i + 1) (fun x h1 h2 => ?_)]
      have := h x (by omega) (by simp only [List.length_cons]; omega)
      rw [v_rough_cons, hc] at this
      rcases List.mem_cons.1 this with rfl | h3
      · omega
      · exact h3
theorem l_law05_Calm (p0 : List (Int × Int)) (p1 : Int) (a b : Nat) (hlen : p0.length ≤ 66) (hc : t_gravity_CalmIn p0 p1 = (((a : Int), (b : Int)), 0)) (hR : s_gravity_RoughIn p0 p1 = (v_rough p1 0 p0, 0)) (hs : v_stretch (v_rough p1 0 p0) p0.length ((a : Int), (b : Int))) :
    OkL (st_law05_GravityCalm_0 p0 p1) (sp_law05_GravityCalm_0 p0 p1) (a : Int) ∧ lpv false (st_law05_GravityCalm_0 p0 p1) (a : Int) = true := by
  have hr : lenOk (v_rough p1 0 p0) := lenOk_le (n := 66) (by have := v_rough_len p1 p0 0; omega) (by decide)
  obtain ⟨h1, h2, h3, h4, h5, h6⟩ := hs
  simp only at h1 h2 h3 h4 h5 h6
  unfold st_law05_GravityCalm_0 sp_law05_GravityCalm_0
  rw [hc, hR]
  dsimp only
  revert hr h4 h5 h6
  generalize v_rough p1 0 p0 = R
  intro hr h4 h5 h6
  have hA : (cond ((a : Int) == 0) true (v_has R (Go.IntKind.wrap .i64 ((a : Int) - 1)))) = true := by
    rw [wrap_id (by omega) (by omega)]
    rcases h5 with h5 | h5
    · rw [h5]; rfl
    · rw [show v_has R ((a : Int) - 1) = true by simpa [v_has] using h5]; cases ((a : Int) == 0) <;> rfl
  have hB : (cond ((b : Int) == (Go.IntKind.wrap .i64 (((p0.length : Nat) : Int) - 1))) true (v_has R (Go.IntKind.wrap .i64 ((b : Int) + 1)))) = true := by
    rw [wrap_id (show -9223372036854775808 ≤ ((p0.length : Nat) : Int) - 1 by omega) (by omega), wrap_id (by omega) (by omega)]
    rcases h6 with h6 | h6
    · rw [h6]; simp
    · rw [show v_has R ((b : Int) + 1) = true by simpa [v_has] using h6]; cases ((b : Int) == ((p0.length : Nat) : Int) - 1) <;> rfl
  refine for_is (fun i (_ : Unit) => i) a (b + 1) (fun _ _ => True) (fun _ _ => true) (by omega) (by omega) ?_ ?_ () trivial
  · intro t _
    refine ⟨by simp only [List.forall_mem_cons]; exact ⟨fun _ => hr, fun _ _ => hr, fun _ _ => hr, fun _ h => by rw [h]; simp, by simp⟩, ?_⟩
    rw [hA, hB, decide_eq_false (by omega)]; rfl
  · intro j t hj1 hj2 _
    refine ⟨by simp only [List.forall_mem_cons]; exact ⟨fun _ => hr, fun _ _ => hr, fun _ _ => hr, fun _ h => by rw [h]; simp, by simp⟩, .inl ⟨(), ?_, trivial, rfl⟩⟩
    rw [decide_eq_true (by omega), show v_has R (j : Int) = false by simpa [v_has] using h4 j (by omega) (by omega), wrap_nat (by omega)]; rfl
/-- The plain law. -/
theorem plain_law05_GravityCalm (p0 : List (Int × Int)) (p1 : Int) (_ : okPs P_law05_GravityCalm (p0, p1)) : (∀ p ∈ pre_law05_GravityCalm p0 p1, p) ∧ s_law05_GravityCalm p0 p1 = true := by
  have e2 : s_ref05_HeightsErr p0 = (v_heights p0).2 := rfl
  have e3 : s_ref05_WithinErr p1 1000000 = s_gravity_limitErr p1 := by
    unfold s_ref05_WithinErr s_gravity_limitErr s_gravity_unless
    rw [tx_eqw]
    cases s_gravity_within p1 0 1000000 <;> rfl
  cases hf : s_law05_few p0
  · unfold pre_law05_GravityCalm s_law05_GravityCalm
    simp only [hf, List.forall_mem_cons]
    simp
  · have hlen : p0.length ≤ 66 := by
      unfold s_law05_few at hf
      have := of_decide_eq_true hf; omega
    have hlen2 : p0.length ≤ 1000000 := by omega
    have hF : v_first [s_gravity_rangesErr p0, s_gravity_limitErr p1] = cond ((v_heights p0).2 != 0) (v_heights p0).2 (cond (s_gravity_limitErr p1 != 0) (s_gravity_limitErr p1) 0) := rfl
    have hT : t_gravity_CalmIn p0 p1 = cond (cond ((v_heights p0).2 != 0) (v_heights p0).2 (cond (s_gravity_limitErr p1 != 0) (s_gravity_limitErr p1) 0) != 0) ((0, 0), cond ((v_heights p0).2 != 0) (v_heights p0).2 (cond (s_gravity_limitErr p1 != 0) (s_gravity_limitErr p1) 0)) ((v_calmE p0 p1).2, s_gravity_unless (v_calmE p0 p1).1 12) := rfl
    have hR : s_gravity_RoughIn p0 p1 = cond (cond ((v_heights p0).2 != 0) (v_heights p0).2 (cond (s_gravity_limitErr p1 != 0) (s_gravity_limitErr p1) 0) != 0) ([], cond ((v_heights p0).2 != 0) (v_heights p0).2 (cond (s_gravity_limitErr p1 != 0) (s_gravity_limitErr p1) 0)) (v_rough p1 0 p0, 0) := rfl
    have hr : lenOk (v_rough p1 0 p0) := lenOk_le (n := 66) (by have := v_rough_len p1 p0 0; omega) (by decide)
    unfold pre_law05_GravityCalm s_law05_GravityCalm
    rw [e2, e3, hF]
    rcases int0 (v_heights p0).2 with ⟨b1, b2, b3⟩ | ⟨b1, b2, b3⟩
    · rcases int0 (s_gravity_limitErr p1) with ⟨c1, c2, c3⟩ | ⟨c1, c2, c3⟩
      · have hT2 : t_gravity_CalmIn p0 p1 = ((v_calmE p0 p1).2, s_gravity_unless (v_calmE p0 p1).1 12) := by rw [hT, b2, c2]; rfl
        have hR2 : s_gravity_RoughIn p0 p1 = (v_rough p1 0 p0, 0) := by rw [hR, b2, c2]; rfl
        have hE := v_ends_of (v_rough p1 0 p0) p1 p0.length p0 0 0 (by omega) (Int.le_refl _) (fun x h1 h2 => by omega) (fun x _ => Iff.rfl)
        have hI := v_calm2_is (rs := v_rough p1 0 p0) (n := p0.length) _ 0 (false, 0, 0) hE (by omega) (.inl rfl) (fun h => by cases h)
        cases hc : (v_calmE p0 p1).1
        · have h0 : (v_calmE p0 p1) = (false, 0, 0) := v_calm2_none2 _ _ _ hc
          have hall := (v_calm2_none (rs := v_rough p1 0 p0) (n := p0.length) _ 0 (false, 0, 0) hE hc).2
          have hlr : (v_rough p1 0 p0).length = p0.length := v_rough_all p0 0 (fun x h1 h2 => hall x h1 (by omega))
          clear hT hR hF
          rw [hT2, hR2, h0]
          simp only [List.forall_mem_cons]
          simp [hf, b1, c1, hr, hlen2, hlr, s_gravity_unless]
          omega
        · have hs : v_stretch (v_rough p1 0 p0) p0.length (v_calmE p0 p1).2 := hI hc
          obtain ⟨a, ha⟩ : ∃ a : Nat, (v_calmE p0 p1).2.1 = a := ⟨(v_calmE p0 p1).2.1.toNat, by have := hs.lo; omega⟩
          obtain ⟨b, hb⟩ : ∃ b : Nat, (v_calmE p0 p1).2.2 = b := ⟨(v_calmE p0 p1).2.2.toNat, by have := hs.lo; have := hs.le; omega⟩
          have h0 : (v_calmE p0 p1) = (true, (a : Int), (b : Int)) := Prod.ext hc (Prod.ext ha hb)
          rw [h0] at hs hT2
          obtain ⟨l1, l2⟩ := l_law05_Calm p0 p1 a b hlen (hT2.trans rfl) hR2 hs
          have l3 : OkL (st_law05_GravityCalm_1 p0 p1) (sp_law05_GravityCalm_1 p0 p1) (a : Int) := l1
          have l4 : lpv false (st_law05_GravityCalm_1 p0 p1) (a : Int) = true := l2
          clear hT hR hF
          rw [hT2, hR2, h0]
          simp only [List.forall_mem_cons]
          simp [hf, b1, c1, hr, hlen2, s_gravity_unless, l1, l2, l3, l4]
      · have hT2 : t_gravity_CalmIn p0 p1 = ((0, 0), s_gravity_limitErr p1) := by rw [hT, b2, c2]; simp [c2]
        have hR2 : s_gravity_RoughIn p0 p1 = ([], s_gravity_limitErr p1) := by rw [hR, b2, c2]; simp [c2]
        clear hT hR hF
        rw [hT2, hR2]
        simp only [List.forall_mem_cons]
        simp [hf, b1, b2, b3, c1, c2, c3, hlen2]
    · have hT2 : t_gravity_CalmIn p0 p1 = ((0, 0), (v_heights p0).2) := by rw [hT, b2]; simp [b2]
      have hR2 : s_gravity_RoughIn p0 p1 = ([], (v_heights p0).2) := by rw [hR, b2]; simp [b2]
      clear hT hR hF
      rw [hT2, hR2]
      simp only [List.forall_mem_cons]
      simp [hf, b1, b2, b3, hlen2]

theorem own : ownKnob Tryd.prog.godebug = none := by kernel_rfl
theorem laidOut : laidOutB Tryd.prog = true := by kernel_rfl
theorem hfn10 : Tryd.prog.funcs[10]? = some (fnOf Tryd.prog 10) := by kernel_rfl
theorem hps10 : (fnOf Tryd.prog 10).params.size = 2 := by kernel_rfl
theorem globs (W : World) (h : laidMetH Tryd.prog Rows.gravityCalmRow.laid W) : Glob (fun b => b < W.heap.size) W := by
  intro g cs hg
  match g, hg with
  | 0, hg =>
    have e : [.int .i64 1, .int .i64 (-2), .int .i64 1] = cs := Option.some.inj hg
    subst e
    exact glob_ints (zs := [1, -2, 1]) (k := .i64) (t := 25) (e := 3) h (by kernel_rfl) (n := "cloverleaf/gravity.second") (.head _) (by kernel_rfl) (by kernel_rfl) (by kernel_rfl) (by kernel_rfl) (by kernel_rfl)
  | _ + 1, hg => cases hg
theorem lifted_GravityCalm (os : Os) (started : os.Started) (H : Type) (enc : TypeId × Value → H) :
    ReturnsInHanded {} Tryd.checked os 10 .any (fun w args => (Rows.gravityCalmSpec.pre enc Tryd.prog (fnOf Tryd.prog 10) Rows.gravityCalmRow.domain false w args ∧ laidMetH Tryd.prog Rows.gravityCalmRow.laid w) ∧ sizedMet enc Tryd.prog (fnOf Tryd.prog 10) (OpenSpec.ofChange Rows.gravityCalmSpec) false w args)
      (Rows.gravityCalmSpec.post enc Tryd.prog (fnOf Tryd.prog 10) false true false false) :=
  said_of_laid (C := Tryd.checked) (laid := Rows.gravityCalmRow.laid) (ss := P_law05_GravityCalm.map shP) (by kernel_rfl) own started (by kernel_rfl) hfn10
    (ChangeSpec.witness_shaped (enc := enc) (C := Tryd.checked) (os := os) (X := fun w _ => laidMetH Tryd.prog Rows.gravityCalmRow.laid w) false (World.laidAll Tryd.prog os Rows.gravityCalmRow.laid) (zeroArgs P_law05_GravityCalm) 8 (World.laidAll_os _ _ _)
      (World.shaped_of_ZipB (by kernel_rfl) (by kernel_rfl)) (by kernel_rfl) (by kernel_rfl) (by kernel_rfl)
      (by rw [MakeChecks.laidMetH_plain _ _ _ (by kernel_rfl)]; exact laidMet_laidAll _ (by kernel_rfl) (by kernel_rfl))) rfl
    (fun ds h => by
      rw [hps10] at h
      match ds, h with
      | [_, _], _ => rfl)
    laidOut (by kernel_rfl) (rt := (fnOf Tryd.prog 10).resultTypes.getD 0 0) (by kernel_rfl) (by kernel_rfl) (by kernel_rfl)
    (law_of ok_law05_GravityCalm fun x hx => ⟨(plain_law05_GravityCalm x.1 x.2 hx).1, congrArg (fun b => V.p (.bool b)) (plain_law05_GravityCalm x.1 x.2 hx).2⟩) globs
theorem GravityCalm_holds : Rows.GravityCalmSaid :=
  OpenClaim.holds_of_wide 10 (fnOf Tryd.prog 10) rfl rfl rfl rfl rfl rfl rfl ⟨rfl, rfl, rfl, rfl, rfl⟩ rfl rfl rfl rfl rfl (by kernel_rfl) hfn10 (by kernel_rfl)
    (of_decide_eq_true (by kernel_rfl)) (by unfold Func.isWrapper; first | (rw [if_pos (by decide +kernel)]; kernel_rfl) | (rw [if_neg (by decide +kernel)]; exact ⟨rfl, rfl⟩))
    (fun os started H enc _ => lifted_GravityCalm os started H enc)
theorem GravityCalmCard_holds : Rows.GravityCalmCardSaid :=
  Claim7.holds_tied_plain_at .later [] [.widerDeep] true (true, "7beca0c3d51d5b13018226e0a3ec850405335d46189a4e3e5247aa211c8b033a") false GravityCalm_holds (fun _ h => by cases h) (by kernel_rfl) (fun _ h => by cases h) gravityCalm_row_tie rfl ⟨rfl, rfl⟩ (by kernel_rfl) rfl
    (fun f fn hf hfn => by
      obtain rfl : f = 10 := Option.some.inj ((show Tryd.prog.funcNamed "cloverleaf/cloverleaflaw05.GravityCalm" = some 10 by kernel_rfl).symm.trans hf) |>.symm
      obtain rfl : fn = fnOf Tryd.prog 10 := (Option.some.inj (hfn10.symm.trans hfn)).symm
      exact ⟨by kernel_rfl, fun j t ht => by
        have hm : t ∈ (fnOf Tryd.prog 10).params.toList := by simpa using Array.mem_of_getElem? ht
        have hall : ((fnOf Tryd.prog 10).params.toList.all fun u => !Tryd.prog.wantsStandIn u) = true := by kernel_rfl
        exact (show Tryd.prog.wantsStandIn t = false by simpa using List.all_eq_true.1 hall t hm)⟩)
    (by kernel_rfl)
end Go.Proofs.YtcecdmdnfmgnfaaDoor
