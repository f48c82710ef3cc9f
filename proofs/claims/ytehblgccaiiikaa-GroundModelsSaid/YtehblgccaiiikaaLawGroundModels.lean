/- GroundModels: the given statement is proved: at every input the law returns true, and the input reads as it did. No condition. -/
import Derived.Test.YtehblgccaiiikaaWalkGroundModels
import Derived.Test.YtehblgccaiiikaaLayB
import Derived.Test.YtehblgccaiiikaaMxU
import Derived.Test.YtehblgccaiiikaaRows
import Derived.ProofKit
namespace Go.Proofs.Ytehblgccaiiikaa
open Go Go.Mx
set_option maxRecDepth 100000
theorem tx_cm_of {l : List (Int × Int)} (h : v_mok l) : v_cm l = (0, 0) := by
  unfold v_cm
  have h0 : 0 < l.length := List.length_pos_iff.2 h.ne
  have h4 := h.len
  rw [show ((l.length : Int) == 0) = false from beq_eq_false_iff_ne.2 (by omega), decide_eq_false (show ¬ (l.length : Int) > 4 by omega)]
  simp only [cond_false]
  have key : ∀ (r a : List (Int × Int)), l = a ++ r → v_scan (v_cm1 l.length) ((0, 0) : Int × Int) (a.length : Int) r = (0, 0) := by
    intro r
    induction r with
    | nil => intro a _; rfl
    | cons x r ih =>
      intro a e
      have hx := h.ok x (by rw [e]; simp)
      have hn : v_cm1 l.length (a.length : Int) x = none := by
        unfold v_cm1
        rw [tx_within.2 hx.c, tx_within.2 hx.t]
        cases c : ((a.length : Int) == (l.length : Int) - 1)
        · rfl
        · have c := beq_iff_eq.1 c
          have : r = [] := by
            rw [e] at c
            simp only [List.length_append, List.length_cons] at c
            exact List.length_eq_zero_iff.1 (by omega)
          subst this
          rw [h.last a x e]; rfl
      unfold v_scan
      rw [hn]
      have := ih (a ++ [x]) (by rw [e]; simp)
      rw [List.length_append, List.length_singleton, Int.natCast_add] at this
      exact this
  exact key l [] rfl
theorem tx_respAt {l : List (Int × Int)} {s : Int} (h : v_mok l) (hs : v_sok s) : v_respAt l s = s_ground_quotient_frac (v_frac (v_resp s l)) := by
  unfold v_respAt
  rw [tx_cm_of h, tx_within.2 hs]; rfl
/-- A response that is small, or too great. -/
structure v_rs (f : Int × Int) : Prop where
  n : 0 < f.1 ∧ f.1 ≤ 1000000000
  d : 0 < f.2 ∧ f.2 ≤ 1000000000
  g : v_gcd f.1 f.2 = 1
theorem tx_frac {l : List (Int × Int)} {s : Int} (h : v_mok l) (hs : v_sok s) : (s_ground_quotient_frac (v_frac (v_resp s l)) = (v_frac (v_resp s l), 0) ∧ v_rs (v_frac (v_resp s l))) ∨ s_ground_quotient_frac (v_frac (v_resp s l)) = ((0, 0), 8) := by
  have hp := v_resp_small hs h
  have hg := v_frac_gcd (v_resp s l)
  unfold s_ground_quotient_frac
  generalize v_frac (v_resp s l) = f at *
  rcases dec0 (a := 1000000000) (b := f.1) with ⟨_, _, _, _, e1⟩ | ⟨h1, _, _, _, e1⟩ <;> rcases dec0 (a := 1000000000) (b := f.2) with ⟨_, _, _, _, e2⟩ | ⟨h2, _, _, _, e2⟩ <;> rw [e1, e2]
  · exact .inr rfl
  · exact .inr rfl
  · exact .inr rfl
  · exact .inl ⟨rfl, ⟨by omega, by omega, hg⟩⟩

theorem tx_rfr {q : Rat} (h : 0 ≤ (v_frac q).1) : (v_rfr q = (v_frac q, true) ∧ s_ground_quotient_frac (v_frac q) = (v_frac q, 0)) ∨ (v_rfr q = ((0, 0), false) ∧ s_ground_quotient_frac (v_frac q) = ((0, 0), 8)) := by
  have hd := q.den_pos
  unfold v_frac at h
  simp only at h
  unfold v_rfr s_ground_quotient_frac
  rcases Decidable.em (q.num.natAbs ≤ 1000000000 ∧ q.den ≤ 1000000000) with c | c
  · left
    rw [decide_eq_true c]
    refine ⟨rfl, ?_⟩
    unfold v_frac
    simp only
    rw [decide_eq_false (show ¬ q.num > 1000000000 by omega), decide_eq_false (show ¬ (q.den : Int) > 1000000000 by omega)]; rfl
  · right
    rw [decide_eq_false c]
    refine ⟨rfl, ?_⟩
    unfold v_frac
    simp only
    rcases Decidable.em (q.num > 1000000000) with g | g
    · rw [decide_eq_true g]; rfl
    · rw [decide_eq_false g, decide_eq_true (show (q.den : Int) > 1000000000 by omega)]; rfl
theorem v_resp_big {s : Int} (hs : v_sok s) {l : List (Int × Int)} (h : v_mok l) : v_rb 10240000000 (v_resp s l) := by
  have := v_resp_small hs h
  unfold v_frac at this
  simp only at this
  exact ⟨by omega, by omega⟩
theorem v_resp_rok {s : Int} (hs : v_sok s) {l : List (Int × Int)} (h : v_mok l) : v_rok (v_rat (v_resp s l)) := (v_resp_big hs h).ok (by decide)
theorem tx_rfr_resp {s : Int} (hs : v_sok s) {l : List (Int × Int)} (h : v_mok l) : (v_rfr (v_resp s l) = (v_frac (v_resp s l), true) ∧ s_ground_quotient_frac (v_frac (v_resp s l)) = (v_frac (v_resp s l), 0)) ∨ (v_rfr (v_resp s l) = ((0, 0), false) ∧ s_ground_quotient_frac (v_frac (v_resp s l)) = ((0, 0), 8)) :=
  tx_rfr (by have := (v_resp_small hs h).2.2.1; omega)

/-- The plain law. -/
theorem plain_law04_GroundModels (p0 : List (Int × Int)) (p1 : Int) (_ : okPs P_law04_GroundModels (p0, p1)) : (∀ p ∈ pre_law04_GroundModels p0 p1, p) ∧ s_law04_GroundModels p0 p1 = true := by
  unfold pre_law04_GroundModels s_law04_GroundModels
  simp only [List.forall_mem_cons, List.nil_append, List.length_nil, v_rv_rat]
  rcases Decidable.em ((p0.length : Int) ≤ 6) with h6 | h6
  rotate_left
  · rw [decide_eq_false h6]; simp
  rw [decide_eq_true h6]
  rcases int0 (v_cm p0).2 with ⟨z, e, e'⟩ | ⟨z, e, e'⟩
  rotate_left
  · have hr : v_respAt p0 p1 = ((0, 0), (v_cm p0).2) := by unfold v_respAt; rw [e]; rfl
    rw [hr]
    have e2 : ((v_cm p0).2 == 0) = false := by rw [beq_eq_false_iff_ne]; exact bne_iff_ne.1 e
    rw [e2, e]
    simp; omega
  have e2 : ((v_cm p0).2 == 0) = true := by rw [beq_iff_eq]; exact z
  rw [e2]
  cases c2 : s_base_Within p1 1 20
  · have hr : v_respAt p0 p1 = ((0, 0), 2) := by unfold v_respAt; rw [e, c2]; rfl
    rw [hr]
    simp; omega
  have hm := tx_cm_ok z
  have hs : v_sok p1 := tx_within.1 c2
  rw [tx_respAt hm hs]
  have hk := v_resp_rok hs hm
  rcases tx_rfr_resp hs hm with ⟨e3, e4⟩ | ⟨e3, e4⟩ <;> rw [e3, e4]
  · simp [hm, hs, hk]; omega
  · simp [hm, hs, hk]; omega

theorem own : ownKnob Try.prog.godebug = none := by kernel_rfl
theorem laidOut : laidOutB Try.prog = true := by kernel_rfl
theorem hfn3 : Try.prog.funcs[3]? = some (fnOf Try.prog 3) := by kernel_rfl
theorem hps3 : (fnOf Try.prog 3).params.size = 2 := by kernel_rfl
theorem lifted_GroundModels (os : Os) (started : os.Started) (H : Type) (enc : TypeId × Value → H) :
    ReturnsInHanded {} Try.checked os 3 .any (Rows.groundModelsSpec.pre6 enc Try.prog (fnOf Try.prog 3) [] false) (Rows.groundModelsSpec.post enc Try.prog (fnOf Try.prog 3) false true false false) :=
  said_of (C := Try.checked) (ss := P_law04_GroundModels.map shP) own started (by kernel_rfl) hfn3
    (ChangeSpec.witness6 (enc := enc) (C := Try.checked) false ⟨#[], zeroArgs P_law04_GroundModels, []⟩ 8 (by kernel_rfl) (by kernel_rfl) (by kernel_rfl) (by kernel_rfl)) rfl
    (fun ds h => by
      rw [hps3] at h
      match ds, h with
      | [_, _], _ => rfl)
    laidOut (by kernel_rfl) (rt := (fnOf Try.prog 3).resultTypes.getD 0 0) (by kernel_rfl) (by kernel_rfl) (by kernel_rfl)
    (law_of ok_law04_GroundModels fun x hx => ⟨(plain_law04_GroundModels x.1 x.2 hx).1, congrArg (fun b => V.p (.bool b)) (plain_law04_GroundModels x.1 x.2 hx).2⟩) (fun _ => rfl)
theorem GroundModels_holds : Rows.GroundModelsSaid :=
  OpenClaim.holds_of_wide 3 (fnOf Try.prog 3) rfl rfl rfl rfl rfl rfl rfl ⟨rfl, rfl, rfl, rfl, rfl⟩ rfl rfl rfl rfl rfl (by kernel_rfl) hfn3 (by kernel_rfl)
    (of_decide_eq_true (by kernel_rfl)) (by unfold Func.isWrapper; first | (rw [if_pos (by decide +kernel)]; kernel_rfl) | (rw [if_neg (by decide +kernel)]; exact ⟨rfl, rfl⟩))
    (fun os started H enc _ => lifted_GroundModels os started H enc)
end Go.Proofs.Ytehblgccaiiikaa
