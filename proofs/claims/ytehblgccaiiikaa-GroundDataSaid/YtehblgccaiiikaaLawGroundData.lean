/- GroundData: the given statement is proved: at every input the law returns true, and the input reads as it did. No condition. -/
import Derived.Test.YtehblgccaiiikaaWalkGroundData
import Derived.Test.YtehblgccaiiikaaLayB
import Derived.Test.YtehblgccaiiikaaMxU
import Derived.Test.YtehblgccaiiikaaRows
import Derived.ProofKit
namespace Go.Proofs.Ytehblgccaiiikaa
open Go Go.Mx
set_option maxRecDepth 100000
theorem tx_rfr {q:Rat} (h:0≤(v_frac q).1):(v_rfr q = (v_frac q,true)∧s_ground_quotient_frac (v_frac q) = (v_frac q,0)) ∨ (v_rfr q = ((0,0),false)∧s_ground_quotient_frac (v_frac q) = ((0,0),8)) := by
  have hd := q.den_pos
  unfold v_frac at h
  simp only at h
  unfold v_rfr s_ground_quotient_frac
  rcases Decidable.em (q.num.natAbs≤1000000000∧q.den≤1000000000) with c | c
  · left
    rw [decide_eq_true c]
    refine ⟨rfl,?_⟩
    unfold v_frac
    simp only
    rw [decide_eq_false (show ¬ q.num > 1000000000 by omega),decide_eq_false (show ¬ (q.den:Int) > 1000000000 by omega)]; rfl
  · right
    rw [decide_eq_false c]
    refine ⟨rfl,?_⟩
    unfold v_frac
    simp only
    rcases Decidable.em (q.num > 1000000000) with g | g
    · rw [decide_eq_true g]; rfl
    · rw [decide_eq_false g,decide_eq_true (show (q.den:Int) > 1000000000 by omega)]; rfl

/-- The misfit is 0 exactly if all data are explained. -/
theorem v_dist_cases (q:Rat) (d:Int×Int×Int):(cond (!(v_below (v_frac q) d)) (!(v_beyond (v_frac q) d)) false = true∧v_dist q d = 0) ∨ (cond (!(v_below (v_frac q) d)) (!(v_beyond (v_frac q) d)) false = false∧0 < v_dist q d) := by
  unfold v_dist
  cases c:v_below (v_frac q) d
  · cases c2:v_beyond (v_frac q) d
    · exact .inl ⟨rfl,rfl⟩
    · refine .inr ⟨rfl,?_⟩
      rw [cond_false,cond_true]
      have h:(d.2.2:Rat) < q * ((1000:Int):Rat) := v_thou_gt.2 (by unfold v_beyond v_frac at c2; exact of_decide_eq_true c2)
      generalize ((1000:Int):Rat) = t at *
      grind
  · refine .inr ⟨by cases v_beyond (v_frac q) d <;> rfl,?_⟩
    rw [cond_true]
    have h:q * ((1000:Int):Rat) < (d.2.1:Rat) := v_thou_lt.2 (by unfold v_below v_frac at c; exact of_decide_eq_true c)
    generalize ((1000:Int):Rat) = t at *
    grind
theorem v_rmax_ge (w x:Rat):w≤v_rmax w x∧x≤v_rmax w x := by
  unfold v_rmax
  rcases Decidable.em (w < x) with c | c
  · rw [decide_eq_true c,cond_true]; grind
  · rw [decide_eq_false c,cond_false]; grind
theorem v_misf_ge (m:List (Int×Int)):∀ (l:List (Int×Int×Int)) (w:Rat),w≤v_misf m w l
  | [],_ => by show _≤_; grind [v_misf]
  | d :: r,w => by
    have h1 := v_misf_ge m r (v_rmax w (v_dist (v_resp d.1 m) d))
    have h2 := (v_rmax_ge w (v_dist (v_resp d.1 m) d)).1
    show w≤v_misf m (v_rmax w (v_dist (v_resp d.1 m) d)) r
    grind
theorem v_misf_zero (m:List (Int×Int)):∀ (l:List (Int×Int×Int)),v_misf m 0 l = 0 ↔ v_exAll m l = true
  | [] => by simp [v_misf,v_exAll]
  | d :: r => by
    have ih := v_misf_zero m r
    have e1:v_misf m 0 (d :: r) = v_misf m (v_rmax 0 (v_dist (v_resp d.1 m) d)) r := rfl
    have e2:v_exAll m (d :: r) = (v_ex m d && v_exAll m r) := rfl
    have e3:v_ex m d = cond (!(v_below (v_frac (v_resp d.1 m)) d)) (!(v_beyond (v_frac (v_resp d.1 m)) d)) false := rfl
    rw [e1,e2,e3]
    rcases v_dist_cases (v_resp d.1 m) d with ⟨c1,c2⟩ | ⟨c1,c2⟩ <;> rw [c1]
    · rw [c2,show v_rmax 0 0 = 0 from rfl,Bool.true_and]; exact ih
    · have h1 := v_misf_ge m r (v_rmax 0 (v_dist (v_resp d.1 m) d))
      have h2 := (v_rmax_ge 0 (v_dist (v_resp d.1 m) d)).2
      constructor
      · intro h; rw [h] at h1; grind
      · intro h; cases h
theorem v_misf0_zero (m:List (Int×Int)) (l:List (Int×Int×Int)):v_misf0 m l = v_misf m 0 l := rfl
theorem v_misf0_nn (m:List (Int×Int)) (l:List (Int×Int×Int)):0≤v_misf0 m l := by rw [v_misf0_zero]; exact v_misf_ge m l 0
theorem v_rexpl_eq (m:List (Int×Int)) (l:List (Int×Int×Int)):v_rexpl m l = v_exAll m l := by
  have h := v_misf_zero m l
  unfold v_rexpl v_rsgn
  rw [v_rv_rat,v_misf0_zero]
  rw [Bool.eq_iff_iff,beq_iff_eq,Int.sign_eq_zero_iff_zero,Rat.num_eq_zero]
  exact h
theorem v_misf0_rok {m:List (Int×Int)} {l:List (Int×Int×Int)} (hm:v_mok m) (hl:v_dat l):v_rok (v_rat (v_misf0 m l)) := (v_misf_rb hm hl.ok (v_rb_int (by decide) (by decide))).ok (by decide)
theorem tx_rfr_misf (m:List (Int×Int)) (l:List (Int×Int×Int)):(v_rfr (v_misf0 m l) = (v_misfr m l,true)∧s_ground_quotient_frac (v_misfr m l) = (v_misfr m l,0)) ∨ (v_rfr (v_misf0 m l) = ((0,0),false)∧s_ground_quotient_frac (v_misfr m l) = ((0,0),8)) :=
  tx_rfr (q := v_misf0 m l) (Rat.num_nonneg.2 (v_misf0_nn m l))

/-- The plain law. -/
theorem plain_law04_GroundData (p0:List (Int×Int)) (p1:List (Int×Int×Int)) (_:okPs P_law04_GroundData (p0,p1)):(∀ p∈pre_law04_GroundData p0 p1,p)∧s_law04_GroundData p0 p1 = true := by
  unfold pre_law04_GroundData s_law04_GroundData s_ref04_CopyData
  simp only [List.forall_mem_cons,List.nil_append,List.length_nil,v_rv_rat]
  rcases Decidable.em ((p0.length:Int)≤6) with h6 | h6
  rotate_left
  · rw [decide_eq_false h6]; simp
  cases h8:s_law04_fewData p1
  · rw [decide_eq_true h6]; simp
  have h8' : (p1.length:Int)≤8 := by unfold s_law04_fewData at h8; exact of_decide_eq_true h8
  rw [decide_eq_true h6]
  rcases int0 (v_cm p0).2 with ⟨z,e,_⟩ | ⟨z,e,_⟩
  rotate_left
  · have hr:v_expls p0 p1 = (false,(v_cm p0).2) := by unfold v_expls; rw [e]; rfl
    have hr2:v_mof p0 p1 = ((0,0),(v_cm p0).2) := by unfold v_mof; rw [e]; rfl
    rw [hr,hr2,e]
    simp [h8]; omega
  have hm := tx_cm_ok z
  rcases int0 (v_cd p1).2 with ⟨y,f,_⟩ | ⟨y,f,_⟩
  rotate_left
  · have hr:v_expls p0 p1 = (false,(v_cd p1).2) := by unfold v_expls; rw [e,f]; rfl
    have hr2:v_mof p0 p1 = ((0,0),(v_cd p1).2) := by unfold v_mof; rw [e,f]; rfl
    rw [hr,hr2,e,f]
    simp [h8]; omega
  obtain ⟨hd,_⟩ := tx_cd_ok y
  have hk := v_misf0_rok hm hd
  have hr:v_expls p0 p1 = (v_exAll p0 p1,0) := by unfold v_expls; rw [e,f]; rfl
  have hr2:v_mof p0 p1 = s_ground_quotient_frac (v_misfr p0 p1) := by unfold v_mof; rw [e,f]; rfl
  rw [hr,hr2,e,f,v_rexpl_eq]
  rcases tx_rfr_misf p0 p1 with ⟨e3,e4⟩ | ⟨e3,e4⟩ <;> rw [e3,e4]
  · simp [h8,hm,hd,hk]; omega
  · simp [h8,hm,hd,hk]; omega

theorem own:ownKnob Try.prog.godebug = none := by kernel_rfl
theorem laidOut:laidOutB Try.prog = true := by kernel_rfl
theorem hfn9:Try.prog.funcs[9]? = some (fnOf Try.prog 9) := by kernel_rfl
theorem hps9:(fnOf Try.prog 9).params.size = 2 := by kernel_rfl
theorem lifted_GroundData (os:Os) (started:os.Started) (H:Type) (enc:TypeId×Value→H) :
    ReturnsInHanded {} Try.checked os 9 .any (Rows.groundDataSpec.pre6 enc Try.prog (fnOf Try.prog 9) [] false) (Rows.groundDataSpec.post enc Try.prog (fnOf Try.prog 9) false true false false) :=
  said_of (C := Try.checked) (ss := P_law04_GroundData.map shP) own started (by kernel_rfl) hfn9
    (ChangeSpec.witness6 (enc := enc) (C := Try.checked) false ⟨#[],zeroArgs P_law04_GroundData,[]⟩ 8 (by kernel_rfl) (by kernel_rfl) (by kernel_rfl) (by kernel_rfl)) rfl
    (fun ds h => by
      rw [hps9] at h
      match ds,h with
      | [_,_],_ => rfl)
    laidOut (by kernel_rfl) (rt := (fnOf Try.prog 9).resultTypes.getD 0 0) (by kernel_rfl) (by kernel_rfl) (by kernel_rfl)
    (law_of ok_law04_GroundData fun x hx => ⟨(plain_law04_GroundData x.1 x.2 hx).1,congrArg (fun b => V.p (.bool b)) (plain_law04_GroundData x.1 x.2 hx).2⟩) (fun _ => rfl)
theorem GroundData_holds:Rows.GroundDataSaid :=
  OpenClaim.holds_of_wide 9 (fnOf Try.prog 9) rfl rfl rfl rfl rfl rfl rfl ⟨rfl,rfl,rfl,rfl,rfl⟩ rfl rfl rfl rfl rfl (by kernel_rfl) hfn9 (by kernel_rfl)
    (of_decide_eq_true (by kernel_rfl)) (by unfold Func.isWrapper; first | (rw [if_pos (by decide +kernel)]; kernel_rfl) | (rw [if_neg (by decide +kernel)]; exact ⟨rfl,rfl⟩))
    (fun os started H enc _ => lifted_GroundData os started H enc)
end Go.Proofs.Ytehblgccaiiikaa
