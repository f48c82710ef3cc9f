/- GroundEnclosures: the given statement is proved: at every input the law returns true, and the input reads as it did. No condition. -/
import Derived.Test.YtehblgccaiiikaaWalkGroundEnclosures
import Derived.Test.YtehblgccaiiikaaLayB
import Derived.Test.YtehblgccaiiikaaMxU
import Derived.Test.YtehblgccaiiikaaRows
import Derived.ProofKit
namespace Go.Proofs.Ytehblgccaiiikaa
open Go Go.Mx
set_option maxRecDepth 100000
/-- A response that is small,or too great. -/
structure v_rs (f:Int×Int):Prop where
  n:0 < f.1∧f.1≤1000000000
  d:0 < f.2∧f.2≤1000000000
  g:v_gcd f.1 f.2 = 1
theorem v_below_mono {p q:Rat} {d:Int×Int×Int} (h:p≤q) (hb:v_below (v_frac q) d = true):v_below (v_frac p) d = true := by
  have h := v_rle_frac.1 h
  have hp := v_frac_pos p
  have hq := v_frac_pos q
  unfold v_below at *
  have hb := of_decide_eq_true hb
  refine decide_eq_true ?_
  generalize (v_frac p).1 = n at *
  generalize (v_frac p).2 = e at *
  generalize (v_frac q).1 = n' at *
  generalize (v_frac q).2 = e' at *
  have m1 := Int.mul_lt_mul_of_pos_right hb hp
  refine Int.lt_of_mul_lt_mul_right (a := e') ?_ (Int.le_of_lt hq)
  have e1:1000 * n * e' = 1000 * (n * e') := by rw [Int.mul_assoc]
  have e2:1000 * n' * e = 1000 * (n' * e) := by rw [Int.mul_assoc]
  have e3:d.2.1 * e * e' = d.2.1 * e' * e := by rw [Int.mul_assoc,Int.mul_comm e,← Int.mul_assoc]
  rw [e1,e3]
  rw [e2] at m1
  omega
theorem v_beyond_mono {p q:Rat} {d:Int×Int×Int} (h:p≤q) (hb:v_beyond (v_frac p) d = true):v_beyond (v_frac q) d = true := by
  have h := v_rle_frac.1 h
  have hp := v_frac_pos p
  have hq := v_frac_pos q
  unfold v_beyond at *
  have hb := of_decide_eq_true hb
  refine decide_eq_true ?_
  generalize (v_frac p).1 = n at *
  generalize (v_frac p).2 = e at *
  generalize (v_frac q).1 = n' at *
  generalize (v_frac q).2 = e' at *
  have m1 := Int.mul_lt_mul_of_pos_right hb hq
  refine Int.lt_of_mul_lt_mul_right (a := e) ?_ (Int.le_of_lt hp)
  have e1:1000 * n * e' = 1000 * (n * e') := by rw [Int.mul_assoc]
  have e2:1000 * n' * e = 1000 * (n' * e) := by rw [Int.mul_assoc]
  have e3:d.2.2 * e * e' = d.2.2 * e' * e := by rw [Int.mul_assoc,Int.mul_comm e,← Int.mul_assoc]
  rw [e2,← e3]
  rw [e1] at m1
  omega

theorem tx_rfr {q:Rat} (h:0≤(v_frac q).1):(v_rfr q = (v_frac q,true)∧s_ground_quotient_frac (v_frac q) = (v_frac q,0)) ∨ (v_rfr q = ((0,0),false)∧s_ground_quotient_frac (v_frac q) = ((0,0),8)) := by
  have hd := q.den_pos
  unfold v_frac at h
  simp only at h
  unfold v_rfr s_ground_quotient_frac
  rcases Decidable.em (q.num.natAbs≤1000000000∧q.den≤1000000000) with c | c
  · left
    rw [decide_eq_true c]
    refine ⟨rfl,?_⟩
    unfold v_frac
    simp only
    rw [decide_eq_false (show ¬ q.num > 1000000000 by omega),decide_eq_false (show ¬ (q.den:Int) > 1000000000 by omega)]; rfl
  · right
    rw [decide_eq_false c]
    refine ⟨rfl,?_⟩
    unfold v_frac
    simp only
    rcases Decidable.em (q.num > 1000000000) with g | g
    · rw [decide_eq_true g]; rfl
    · rw [decide_eq_false g,decide_eq_true (show (q.den:Int) > 1000000000 by omega)]; rfl
theorem tx_rfr_resp {s:Int} (hs:v_sok s) {l:List (Int×Int)} (h:v_mok l):(v_rfr (v_resp s l) = (v_frac (v_resp s l),true)∧s_ground_quotient_frac (v_frac (v_resp s l)) = (v_frac (v_resp s l),0)) ∨ (v_rfr (v_resp s l) = ((0,0),false)∧s_ground_quotient_frac (v_frac (v_resp s l)) = ((0,0),8)) :=
  tx_rfr (by have := (v_resp_small hs h).2.2.1; omega)

theorem v_ranswer_eq {p q:Rat} {d:Int×Int×Int} (h:p≤q):v_ranswer (v_frac p) (v_frac q) d = v_answer (v_frac p) (v_frac q) d := by
  have b1 := v_below_mono (d := d) h
  have b2 := v_beyond_mono (d := d) h
  unfold v_ranswer v_answer
  cases c1:v_below (v_frac p) d <;> cases c2:v_below (v_frac q) d <;> cases c3:v_beyond (v_frac p) d <;> cases c4:v_beyond (v_frac q) d <;> simp_all
/-- The plain law. -/
theorem plain_law04_GroundEnclosures (p0 p1:List (Int×Int)) (p2:Int×Int×Int) (_:okPs P_law04_GroundEnclosures (p0,p1,p2)):(∀ p∈pre_law04_GroundEnclosures p0 p1 p2,p)∧s_law04_GroundEnclosures p0 p1 p2 = true := by
  unfold pre_law04_GroundEnclosures s_law04_GroundEnclosures
  simp only [List.forall_mem_cons,List.nil_append,List.length_nil,v_rv_rat]
  rcases Decidable.em ((p0.length:Int)≤6) with h6 | h6
  rotate_left
  · rw [decide_eq_false h6]; simp
  rcases Decidable.em ((p1.length:Int)≤6) with h7 | h7
  rotate_left
  · rw [decide_eq_false h7]; simp
  rw [decide_eq_true h6,decide_eq_true h7]
  rcases int0 (v_bo p0 p1) with ⟨z,e,_⟩ | ⟨z,e,_⟩
  rotate_left
  · have hr:v_encl p0 p1 p2.1 = (((0,0),(0,0)),v_bo p0 p1) := by unfold v_encl; rw [e]; rfl
    have hr2:v_ans p0 p1 p2 = (0,v_bo p0 p1) := by unfold v_ans; rw [e]; rfl
    rw [hr,hr2,e]
    simp; omega
  obtain ⟨hm0,hm1,hab⟩ := tx_bo z
  rw [e]
  have hdk:(v_cd [p2]).2 = 0→v_dok p2 := fun h => (tx_cd_ok h).1.ok _ (List.mem_singleton.2 rfl)
  have hA:((v_cd [p2]).2 = 0∧v_dok p2∧v_ans p0 p1 p2 = (v_ranswer (v_frac (v_resp p2.1 p0)) (v_frac (v_resp p2.1 p1)) p2,0)) ∨ ((v_cd [p2]).2 ≠ 0∧v_ans p0 p1 p2 = (0,(v_cd [p2]).2)) := by
    rcases int0 (v_cd [p2]).2 with ⟨y,f,_⟩ | ⟨y,f,_⟩
    · have hd := hdk y
      refine .inl ⟨y,hd,?_⟩
      rw [v_ranswer_eq (v_resp_mono (s := p2.1) (by have := hd.s; omega) hab hm0.ok hm1.ok)]
      unfold v_ans; rw [e,f]; rfl
    · refine .inr ⟨y,?_⟩
      unfold v_ans; rw [e,f]; rfl
  cases c2:s_base_Within p2.1 1 20
  · have hr:v_encl p0 p1 p2.1 = (((0,0),(0,0)),2) := by unfold v_encl; rw [e,c2]; rfl
    rw [hr]
    rcases hA with ⟨y,hd,ea⟩ | ⟨y,ea⟩ <;> rw [ea]
    · simp [y,hm0,hm1,hd]; omega
    · simp [y,hm0,hm1]; omega
  have hs:v_sok p2.1 := tx_within.1 c2
  have hk0 := v_resp_rok hs hm0
  have hk1 := v_resp_rok hs hm1
  have hr:v_encl p0 p1 p2.1 = (cond ((s_ground_quotient_frac (v_frac (v_resp p2.1 p0))).2 != 0) (((0,0),(0,0)),(s_ground_quotient_frac (v_frac (v_resp p2.1 p0))).2) (cond ((s_ground_quotient_frac (v_frac (v_resp p2.1 p1))).2 != 0) (((0,0),(0,0)),(s_ground_quotient_frac (v_frac (v_resp p2.1 p1))).2) (((s_ground_quotient_frac (v_frac (v_resp p2.1 p0))).1,(s_ground_quotient_frac (v_frac (v_resp p2.1 p1))).1),0))) := by
    unfold v_encl; rw [e,c2]; rfl
  rw [hr]
  rcases tx_rfr_resp hs hm0 with ⟨e3,e4⟩ | ⟨e3,e4⟩ <;> rcases tx_rfr_resp hs hm1 with ⟨e5,e6⟩ | ⟨e5,e6⟩ <;> rw [e3,e4,e5,e6] <;> rcases hA with ⟨y,hd,ea⟩ | ⟨y,ea⟩ <;> rw [ea] <;> (try simp [y,hm0,hm1,hs,hk0,hk1,hd]) <;> (try simp [y,hm0,hm1,hs,hk0,hk1]) <;> omega

theorem own:ownKnob Try.prog.godebug = none := by kernel_rfl
theorem laidOut:laidOutB Try.prog = true := by kernel_rfl
theorem hfn6:Try.prog.funcs[6]? = some (fnOf Try.prog 6) := by kernel_rfl
theorem hps6:(fnOf Try.prog 6).params.size = 3 := by kernel_rfl
theorem lifted_GroundEnclosures (os:Os) (started:os.Started) (H:Type) (enc:TypeId×Value→H) :
    ReturnsInHanded {} Try.checked os 6 .any (Rows.groundEnclosuresSpec.pre6 enc Try.prog (fnOf Try.prog 6) [] false) (Rows.groundEnclosuresSpec.post enc Try.prog (fnOf Try.prog 6) false true false false) :=
  said_of (C := Try.checked) (ss := P_law04_GroundEnclosures.map shP) own started (by kernel_rfl) hfn6
    (ChangeSpec.witness6 (enc := enc) (C := Try.checked) false ⟨#[],zeroArgs P_law04_GroundEnclosures,[]⟩ 8 (by kernel_rfl) (by kernel_rfl) (by kernel_rfl) (by kernel_rfl)) rfl
    (fun ds h => by
      rw [hps6] at h
      match ds,h with
      | [_,_,_],_ => rfl)
    laidOut (by kernel_rfl) (rt := (fnOf Try.prog 6).resultTypes.getD 0 0) (by kernel_rfl) (by kernel_rfl) (by kernel_rfl)
    (law_of ok_law04_GroundEnclosures fun x hx => ⟨(plain_law04_GroundEnclosures x.1 x.2.1 x.2.2 hx).1,congrArg (fun b => V.p (.bool b)) (plain_law04_GroundEnclosures x.1 x.2.1 x.2.2 hx).2⟩) (fun _ => rfl)
theorem GroundEnclosures_holds:Rows.GroundEnclosuresSaid :=
  OpenClaim.holds_of_wide 6 (fnOf Try.prog 6) rfl rfl rfl rfl rfl rfl rfl ⟨rfl,rfl,rfl,rfl,rfl⟩ rfl rfl rfl rfl rfl (by kernel_rfl) hfn6 (by kernel_rfl)
    (of_decide_eq_true (by kernel_rfl)) (by unfold Func.isWrapper; first | (rw [if_pos (by decide +kernel)]; kernel_rfl) | (rw [if_neg (by decide +kernel)]; exact ⟨rfl,rfl⟩))
    (fun os started H enc _ => lifted_GroundEnclosures os started H enc)
end Go.Proofs.Ytehblgccaiiikaa
