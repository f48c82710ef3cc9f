/- What the functions that GroundData reaches compute: contracts, each function once. No condition. -/
import Derived.Test.YtehblgccaiiikaaWalkGroundDataB
import Derived.KernelRfl
namespace Go.Proofs.Ytehblgccaiiikaa
open Go Go.Mx
set_option maxRecDepth 100000
/- ground_misfit -/
def C_ground_misfit:Cons := [(79,[],con_ground_response),(126,[],con_ground_reduced),(138,[],con_ground_quotient_above)]
theorem hC_ground_misfit:ConsOk Try.prog C_ground_misfit := ConsOk.cons ok_ground_response <| ConsOk.cons ok_ground_reduced <| ConsOk.cons ok_ground_quotient_above <| ConsOk.nil
abbrev q0_ground_misfit (p0:(List (Int×Int))) (p1:(List (Int×(Int×Int)))) (y1:(Int×(Int×Int))) := (v_frac (v_resp (p1.getD y1.1.toNat (zz0,(zz0,zz0))).1 p0))
abbrev q1_ground_misfit (p0:(List (Int×Int))) (p1:(List (Int×(Int×Int)))) (y1:(Int×(Int×Int))) := ((p1.getD y1.1.toNat (zz0,(zz0,zz0))).2.1 * (q0_ground_misfit p0 p1 y1).2)
abbrev q2_ground_misfit (p0:(List (Int×Int))) (p1:(List (Int×(Int×Int)))) (y1:(Int×(Int×Int))) := ((p1.getD y1.1.toNat (zz0,(zz0,zz0))).2.2 * (q0_ground_misfit p0 p1 y1).2)
def w_ground_misfit (p0:(List (Int×Int))) (p1:(List (Int×(Int×Int)))) (K:(Int×Int)→Prop):Prop :=
  (∃ n0,(loopP (fun (y1:(Int×(Int×Int))) k2 =>
  ((((decide (y1.1 < (List.length p1:Int)))=true) →
  ((zz0≤y1.1) ∧
   ((y1.1 < (List.length p1:Int)) ∧
   ((v_mok p0) ∧
   ((v_sok (p1.getD y1.1.toNat (zz0,(zz0,zz0))).1) ∧
   ((((zz0≤(max (max zz0 (wi ((wi (q1_ground_misfit p0 p1 y1)) - (wi ((1000:Int) * (q0_ground_misfit p0 p1 y1).1))))) (wi ((wi ((1000:Int) * (q0_ground_misfit p0 p1 y1).1)) - (wi (q2_ground_misfit p0 p1 y1)))))) ∧
   ((max (max zz0 (wi ((wi (q1_ground_misfit p0 p1 y1)) - (wi ((1000:Int) * (q0_ground_misfit p0 p1 y1).1))))) (wi ((wi ((1000:Int) * (q0_ground_misfit p0 p1 y1).1)) - (wi (q2_ground_misfit p0 p1 y1)))))≤9223372036854775807)) ∧
   ((zz0 < (q0_ground_misfit p0 p1 y1).2) ∧
   ((q0_ground_misfit p0 p1 y1).2≤9223372036854775807))) ∧
   (((zz0≤(v_redu (max (max zz0 (wi ((wi (q1_ground_misfit p0 p1 y1)) - (wi ((1000:Int) * (q0_ground_misfit p0 p1 y1).1))))) (wi ((wi ((1000:Int) * (q0_ground_misfit p0 p1 y1).1)) - (wi (q2_ground_misfit p0 p1 y1))))) (q0_ground_misfit p0 p1 y1).2).1) ∧
   ((v_redu (max (max zz0 (wi ((wi (q1_ground_misfit p0 p1 y1)) - (wi ((1000:Int) * (q0_ground_misfit p0 p1 y1).1))))) (wi ((wi ((1000:Int) * (q0_ground_misfit p0 p1 y1).1)) - (wi (q2_ground_misfit p0 p1 y1))))) (q0_ground_misfit p0 p1 y1).2).1≤9223372036854775807)) ∧
   (((zz0≤(v_redu (max (max zz0 (wi ((wi (q1_ground_misfit p0 p1 y1)) - (wi ((1000:Int) * (q0_ground_misfit p0 p1 y1).1))))) (wi ((wi ((1000:Int) * (q0_ground_misfit p0 p1 y1).1)) - (wi (q2_ground_misfit p0 p1 y1))))) (q0_ground_misfit p0 p1 y1).2).2) ∧
   ((v_redu (max (max zz0 (wi ((wi (q1_ground_misfit p0 p1 y1)) - (wi ((1000:Int) * (q0_ground_misfit p0 p1 y1).1))))) (wi ((wi ((1000:Int) * (q0_ground_misfit p0 p1 y1).1)) - (wi (q2_ground_misfit p0 p1 y1))))) (q0_ground_misfit p0 p1 y1).2).2≤9223372036854775807)) ∧
   (((zz0≤y1.2.1) ∧
   (y1.2.1≤9223372036854775807)) ∧
   (((zz0≤y1.2.2) ∧
   (y1.2.2≤9223372036854775807)) ∧
   ((((v_qab (v_redu (max (max zz0 (wi ((wi (q1_ground_misfit p0 p1 y1)) - (wi ((1000:Int) * (q0_ground_misfit p0 p1 y1).1))))) (wi ((wi ((1000:Int) * (q0_ground_misfit p0 p1 y1).1)) - (wi (q2_ground_misfit p0 p1 y1))))) (q0_ground_misfit p0 p1 y1).2) y1.2)=true) →
   (k2 ((wi (y1.1 + zz1)),(v_redu (max (max zz0 (wi ((wi (q1_ground_misfit p0 p1 y1)) - (wi ((1000:Int) * (q0_ground_misfit p0 p1 y1).1))))) (wi ((wi ((1000:Int) * (q0_ground_misfit p0 p1 y1).1)) - (wi (q2_ground_misfit p0 p1 y1))))) (q0_ground_misfit p0 p1 y1).2)))) ∧
   (((v_qab (v_redu (max (max zz0 (wi ((wi (q1_ground_misfit p0 p1 y1)) - (wi ((1000:Int) * (q0_ground_misfit p0 p1 y1).1))))) (wi ((wi ((1000:Int) * (q0_ground_misfit p0 p1 y1).1)) - (wi (q2_ground_misfit p0 p1 y1))))) (q0_ground_misfit p0 p1 y1).2) y1.2)=false) →
   (k2 ((wi (y1.1 + zz1)),y1.2)))))))))))))) ∧
  (((decide (y1.1 < (List.length p1:Int)))=false) →
  (K y1.2)))) n0 (zz0,(zz0,zz1))))
set_option maxHeartbeats 4000000 in
theorem w_ground_misfit_eq (p0:(List (Int×Int))) (p1:(List (Int×(Int×Int)))) (K:(Int×Int)→Prop):tfn F_ground_misfit A_ground_misfit C_ground_misfit P_ground_misfit R_ground_misfit (p0,p1) K = w_ground_misfit p0 p1 K := by kernel_rfl
def st_ground_misfit_0 (p0:(List (Int×Int))) (p1:(List (Int×(Int×Int)))) (y0:(Int×(Int×Int))):(Int×(Int×Int)) ⊕ (Int×Int) :=
 (cond (decide (y0.1 < (List.length p1:Int))) (cond (v_qab (v_redu (max (max (0:Int) (IntKind.i64.wrap ((IntKind.i64.wrap ((p1.getD y0.1.toNat ((0:Int),((0:Int),(0:Int)))).2.1 * (v_frac (v_resp (p1.getD y0.1.toNat ((0:Int),((0:Int),(0:Int)))).1 p0)).2)) - (IntKind.i64.wrap ((1000:Int) * (v_frac (v_resp (p1.getD y0.1.toNat ((0:Int),((0:Int),(0:Int)))).1 p0)).1))))) (IntKind.i64.wrap ((IntKind.i64.wrap ((1000:Int) * (v_frac (v_resp (p1.getD y0.1.toNat ((0:Int),((0:Int),(0:Int)))).1 p0)).1)) - (IntKind.i64.wrap ((p1.getD y0.1.toNat ((0:Int),((0:Int),(0:Int)))).2.2 * (v_frac (v_resp (p1.getD y0.1.toNat ((0:Int),((0:Int),(0:Int)))).1 p0)).2))))) (v_frac (v_resp (p1.getD y0.1.toNat ((0:Int),((0:Int),(0:Int)))).1 p0)).2) y0.2) (Sum.inl ((IntKind.i64.wrap (y0.1 + 1)),(v_redu (max (max (0:Int) (IntKind.i64.wrap ((IntKind.i64.wrap ((p1.getD y0.1.toNat ((0:Int),((0:Int),(0:Int)))).2.1 * (v_frac (v_resp (p1.getD y0.1.toNat ((0:Int),((0:Int),(0:Int)))).1 p0)).2)) - (IntKind.i64.wrap ((1000:Int) * (v_frac (v_resp (p1.getD y0.1.toNat ((0:Int),((0:Int),(0:Int)))).1 p0)).1))))) (IntKind.i64.wrap ((IntKind.i64.wrap ((1000:Int) * (v_frac (v_resp (p1.getD y0.1.toNat ((0:Int),((0:Int),(0:Int)))).1 p0)).1)) - (IntKind.i64.wrap ((p1.getD y0.1.toNat ((0:Int),((0:Int),(0:Int)))).2.2 * (v_frac (v_resp (p1.getD y0.1.toNat ((0:Int),((0:Int),(0:Int)))).1 p0)).2))))) (v_frac (v_resp (p1.getD y0.1.toNat ((0:Int),((0:Int),(0:Int)))).1 p0)).2)))
  (Sum.inl ((IntKind.i64.wrap (y0.1 + 1)),y0.2)))
  (Sum.inr y0.2))
abbrev sp_ground_misfit_0 (p0:(List (Int×Int))) (p1:(List (Int×(Int×Int)))) (y0:(Int×(Int×Int))):List Prop := [(((decide (y0.1 < (List.length p1:Int)))=true)→((0:Int)≤y0.1)),
  (((decide (y0.1 < (List.length p1:Int)))=true)→(y0.1 < (List.length p1:Int))),
  (((decide (y0.1 < (List.length p1:Int)))=true)→(v_mok p0)),
  (((decide (y0.1 < (List.length p1:Int)))=true)→(v_sok (p1.getD y0.1.toNat ((0:Int),((0:Int),(0:Int)))).1)),
  (((decide (y0.1 < (List.length p1:Int)))=true)→((((0:Int)≤(max (max (0:Int) (IntKind.i64.wrap ((IntKind.i64.wrap ((p1.getD y0.1.toNat ((0:Int),((0:Int),(0:Int)))).2.1 * (v_frac (v_resp (p1.getD y0.1.toNat ((0:Int),((0:Int),(0:Int)))).1 p0)).2)) - (IntKind.i64.wrap ((1000:Int) * (v_frac (v_resp (p1.getD y0.1.toNat ((0:Int),((0:Int),(0:Int)))).1 p0)).1))))) (IntKind.i64.wrap ((IntKind.i64.wrap ((1000:Int) * (v_frac (v_resp (p1.getD y0.1.toNat ((0:Int),((0:Int),(0:Int)))).1 p0)).1)) - (IntKind.i64.wrap ((p1.getD y0.1.toNat ((0:Int),((0:Int),(0:Int)))).2.2 * (v_frac (v_resp (p1.getD y0.1.toNat ((0:Int),((0:Int),(0:Int)))).1 p0)).2))))))∧((max (max (0:Int) (IntKind.i64.wrap ((IntKind.i64.wrap ((p1.getD y0.1.toNat ((0:Int),((0:Int),(0:Int)))).2.1 * (v_frac (v_resp (p1.getD y0.1.toNat ((0:Int),((0:Int),(0:Int)))).1 p0)).2)) - (IntKind.i64.wrap ((1000:Int) * (v_frac (v_resp (p1.getD y0.1.toNat ((0:Int),((0:Int),(0:Int)))).1 p0)).1))))) (IntKind.i64.wrap ((IntKind.i64.wrap ((1000:Int) * (v_frac (v_resp (p1.getD y0.1.toNat ((0:Int),((0:Int),(0:Int)))).1 p0)).1)) - (IntKind.i64.wrap ((p1.getD y0.1.toNat ((0:Int),((0:Int),(0:Int)))).2.2 * (v_frac (v_resp (p1.getD y0.1.toNat ((0:Int),((0:Int),(0:Int)))).1 p0)).2)))))≤9223372036854775807))∧(((0:Int) < (v_frac (v_resp (p1.getD y0.1.toNat ((0:Int),((0:Int),(0:Int)))).1 p0)).2)∧((v_frac (v_resp (p1.getD y0.1.toNat ((0:Int),((0:Int),(0:Int)))).1 p0)).2≤9223372036854775807)))),
  (((decide (y0.1 < (List.length p1:Int)))=true)→(((0:Int)≤(v_redu (max (max (0:Int) (IntKind.i64.wrap ((IntKind.i64.wrap ((p1.getD y0.1.toNat ((0:Int),((0:Int),(0:Int)))).2.1 * (v_frac (v_resp (p1.getD y0.1.toNat ((0:Int),((0:Int),(0:Int)))).1 p0)).2)) - (IntKind.i64.wrap ((1000:Int) * (v_frac (v_resp (p1.getD y0.1.toNat ((0:Int),((0:Int),(0:Int)))).1 p0)).1))))) (IntKind.i64.wrap ((IntKind.i64.wrap ((1000:Int) * (v_frac (v_resp (p1.getD y0.1.toNat ((0:Int),((0:Int),(0:Int)))).1 p0)).1)) - (IntKind.i64.wrap ((p1.getD y0.1.toNat ((0:Int),((0:Int),(0:Int)))).2.2 * (v_frac (v_resp (p1.getD y0.1.toNat ((0:Int),((0:Int),(0:Int)))).1 p0)).2))))) (v_frac (v_resp (p1.getD y0.1.toNat ((0:Int),((0:Int),(0:Int)))).1 p0)).2).1)∧((v_redu (max (max (0:Int) (IntKind.i64.wrap ((IntKind.i64.wrap ((p1.getD y0.1.toNat ((0:Int),((0:Int),(0:Int)))).2.1 * (v_frac (v_resp (p1.getD y0.1.toNat ((0:Int),((0:Int),(0:Int)))).1 p0)).2)) - (IntKind.i64.wrap ((1000:Int) * (v_frac (v_resp (p1.getD y0.1.toNat ((0:Int),((0:Int),(0:Int)))).1 p0)).1))))) (IntKind.i64.wrap ((IntKind.i64.wrap ((1000:Int) * (v_frac (v_resp (p1.getD y0.1.toNat ((0:Int),((0:Int),(0:Int)))).1 p0)).1)) - (IntKind.i64.wrap ((p1.getD y0.1.toNat ((0:Int),((0:Int),(0:Int)))).2.2 * (v_frac (v_resp (p1.getD y0.1.toNat ((0:Int),((0:Int),(0:Int)))).1 p0)).2))))) (v_frac (v_resp (p1.getD y0.1.toNat ((0:Int),((0:Int),(0:Int)))).1 p0)).2).1≤9223372036854775807))),
  (((decide (y0.1 < (List.length p1:Int)))=true)→(((0:Int)≤(v_redu (max (max (0:Int) (IntKind.i64.wrap ((IntKind.i64.wrap ((p1.getD y0.1.toNat ((0:Int),((0:Int),(0:Int)))).2.1 * (v_frac (v_resp (p1.getD y0.1.toNat ((0:Int),((0:Int),(0:Int)))).1 p0)).2)) - (IntKind.i64.wrap ((1000:Int) * (v_frac (v_resp (p1.getD y0.1.toNat ((0:Int),((0:Int),(0:Int)))).1 p0)).1))))) (IntKind.i64.wrap ((IntKind.i64.wrap ((1000:Int) * (v_frac (v_resp (p1.getD y0.1.toNat ((0:Int),((0:Int),(0:Int)))).1 p0)).1)) - (IntKind.i64.wrap ((p1.getD y0.1.toNat ((0:Int),((0:Int),(0:Int)))).2.2 * (v_frac (v_resp (p1.getD y0.1.toNat ((0:Int),((0:Int),(0:Int)))).1 p0)).2))))) (v_frac (v_resp (p1.getD y0.1.toNat ((0:Int),((0:Int),(0:Int)))).1 p0)).2).2)∧((v_redu (max (max (0:Int) (IntKind.i64.wrap ((IntKind.i64.wrap ((p1.getD y0.1.toNat ((0:Int),((0:Int),(0:Int)))).2.1 * (v_frac (v_resp (p1.getD y0.1.toNat ((0:Int),((0:Int),(0:Int)))).1 p0)).2)) - (IntKind.i64.wrap ((1000:Int) * (v_frac (v_resp (p1.getD y0.1.toNat ((0:Int),((0:Int),(0:Int)))).1 p0)).1))))) (IntKind.i64.wrap ((IntKind.i64.wrap ((1000:Int) * (v_frac (v_resp (p1.getD y0.1.toNat ((0:Int),((0:Int),(0:Int)))).1 p0)).1)) - (IntKind.i64.wrap ((p1.getD y0.1.toNat ((0:Int),((0:Int),(0:Int)))).2.2 * (v_frac (v_resp (p1.getD y0.1.toNat ((0:Int),((0:Int),(0:Int)))).1 p0)).2))))) (v_frac (v_resp (p1.getD y0.1.toNat ((0:Int),((0:Int),(0:Int)))).1 p0)).2).2≤9223372036854775807))),
  (((decide (y0.1 < (List.length p1:Int)))=true)→(((0:Int)≤y0.2.1)∧(y0.2.1≤9223372036854775807))),
  (((decide (y0.1 < (List.length p1:Int)))=true)→(((0:Int)≤y0.2.2)∧(y0.2.2≤9223372036854775807)))]
def s_ground_misfit (p0:(List (Int×Int))) (p1:(List (Int×(Int×Int)))):(Int×Int) :=
 (lpv ((0:Int),(0:Int)) (st_ground_misfit_0 p0 p1) ((0:Int),((0:Int),(1:Int))))
abbrev pre_ground_misfit (p0:(List (Int×Int))) (p1:(List (Int×(Int×Int)))):List Prop := [(OkL (st_ground_misfit_0 p0 p1) (sp_ground_misfit_0 p0 p1) ((0:Int),((0:Int),(1:Int))))]
set_option maxHeartbeats 4000000 in
theorem d_ground_misfit (p0:(List (Int×Int))) (p1:(List (Int×(Int×Int)))) (K:(Int×Int)→Prop) (hp:∀ p∈pre_ground_misfit p0 p1,p) (h:K (s_ground_misfit p0 p1)):w_ground_misfit p0 p1 K := by
 unfold w_ground_misfit
 unfold s_ground_misfit at h
 obtain ⟨hp0,_⟩ := conj_of hp
 exact (loop_gen (hp0) h (fun y0 k0 hp h => by
 unfold st_ground_misfit_0 at h; obtain ⟨hp0,hp1,hp2,hp3,hp4,hp5,hp6,hp7,hp8,_⟩ := conj_of hp
 exact (br' h (fun e1 h => ⟨(hp0 e1),(hp1 e1),(hp2 e1),(hp3 e1),(hp4 e1),(hp5 e1),(hp6 e1),(hp7 e1),(hp8 e1),(br' h (fun e2 h => h)
  (fun e2 h => h))⟩)
  (fun e1 h => h))))
theorem v_qab_frac {p q:Rat}:v_qab (v_frac p) (v_frac q)=decide (q < p) := by
 unfold v_qab
 exact decide_eq_decide.2 v_rlt_frac.symm
theorem v_dist_off {q:Rat} {d:Int×Int×Int} (h:d.2.1≤d.2.2):(max (max 0 (d.2.1 * (v_frac q).2 - 1000 * (v_frac q).1)) (1000 * (v_frac q).1 - d.2.2 * (v_frac q).2):Int)=cond (v_below (v_frac q) d) (d.2.1 * (v_frac q).2 - 1000 * (v_frac q).1) (cond (v_beyond (v_frac q) d) (1000 * (v_frac q).1 - d.2.2 * (v_frac q).2) 0) := by
 have hp := v_frac_pos q
 have hm:d.2.1 * (v_frac q).2≤d.2.2 * (v_frac q).2 := Int.mul_le_mul_of_nonneg_right h (by omega)
 unfold v_below v_beyond
 generalize d.2.1 * (v_frac q).2 = a at *
 generalize d.2.2 * (v_frac q).2 = b at *
 rcases Decidable.em (1000 * (v_frac q).1 < a) with c | c
 ·rw [decide_eq_true c,cond_true]; omega
 ·rw [decide_eq_false c,cond_false]
  rcases Decidable.em (1000 * (v_frac q).1 > b) with c2 | c2
  ·rw [decide_eq_true c2,cond_true]; omega
  ·rw [decide_eq_false c2,cond_false]; omega
theorem v_dist_redu {q:Rat} {d:Int×Int×Int} (h:d.2.1≤d.2.2):v_redu (max (max 0 (d.2.1 * (v_frac q).2 - 1000 * (v_frac q).1)) (1000 * (v_frac q).1 - d.2.2 * (v_frac q).2)) (v_frac q).2 = v_frac (v_dist q d) := by
 rw [v_dist_off h]
 unfold v_redu v_dist
 have hd := v_rcast_ne (d := (q.den:Int)) (by have := q.den_pos; omega)
 have e := v_qnum q
 have e2:((v_frac q).2:Int)=(q.den:Int) := rfl
 have e1:((v_frac q).1:Int)=q.num := rfl
 congr 1
 cases v_below (v_frac q) d
 ·cases v_beyond (v_frac q) d
  ·rw [cond_false,cond_false,cond_false,cond_false,Rat.div_def]
   show ((0:Int):Rat) * _ = ((0:Int):Rat)
   have:((0:Int):Rat)=0 := rfl
   rw [this]; grind
  ·rw [cond_false,cond_false,cond_true,cond_true,e2,e1,Rat.intCast_sub,Rat.intCast_mul,Rat.intCast_mul,e]
   generalize ((q.den:Int):Rat)=b at *
   have:((1000:Int):Rat) * (q * b) - (d.2.2:Rat) * b = (q * ((1000:Int):Rat) - (d.2.2:Rat)) * b := by grind
   rw [this,Rat.mul_div_cancel hd]
 ·rw [cond_true,cond_true,e2,e1,Rat.intCast_sub,Rat.intCast_mul,Rat.intCast_mul,e]
  generalize ((q.den:Int):Rat)=b at *
  have:(d.2.1:Rat) * b - ((1000:Int):Rat) * (q * b)=((d.2.1:Rat) - q * ((1000:Int):Rat)) * b := by grind
  rw [this,Rat.mul_div_cancel hd]
/-- A quotient that is not below 0,within bounds. -/
structure v_qok (q:Rat):Prop where
 n:0≤(v_frac q).1∧(v_frac q).1≤9223372036854775807
 d:0≤(v_frac q).2∧(v_frac q).2≤9223372036854775807
theorem l_ground_misfit_0 (p0:List (Int×Int)) (p1:List (Int×Int×Int)) (hm:v_mok p0) (hd:v_dat p1):OkL (st_ground_misfit_0 p0 p1) (sp_ground_misfit_0 p0 p1) (0,(0,1))∧lpv (0,0) (st_ground_misfit_0 p0 p1) (0,(0,1))=v_frac (v_misf p0 ((0:Int):Rat) p1) := by
 have hl := hd.len
 have main := @for_is (Int×Int) (Int×(Int×Int)) (Int×Int) (0,0) (st_ground_misfit_0 p0 p1) (sp_ground_misfit_0 p0 p1) (fun i t => (i,t)) 0 p1.length
  (fun _ t => ∃ w,t = v_frac w∧v_qok w) (fun j t => v_frac (v_misf p0 (v_rq t) (p1.drop j))) (by omega) (by omega) ?_ ?_ (v_frac ((0:Int):Rat)) ⟨_,rfl,⟨by decide,by decide⟩⟩
 ·rw [v_rq_frac,List.drop_zero] at main; exact main
 ·rintro t ⟨w,rfl,hw⟩
  simp only [sp_ground_misfit_0,st_ground_misfit_0,List.forall_mem_cons,show decide ((p1.length:Int) < (p1.length:Int))=false from decide_eq_false (by omega),cond_false]
  refine ⟨?_,?_⟩
  ·and_intros
   all_goals first
    | (intro h; cases h; done)
    | (intro p hp; cases hp)
  ·rw [v_rq_frac,List.drop_length]; rfl
 ·rintro j t - hj ⟨w,rfl,hw⟩
  have hd1:decide ((j:Int) < (p1.length:Int))=true := decide_eq_true (by omega)
  have hw1:IntKind.i64.wrap ((j:Int) + 1)=((j + 1:Nat):Int) := wrap_id (by omega) (by omega)
  have hx:v_dok (p1.getD j (0,0,0)) := hd.ok _ (v_getD_mem (by omega))
  have s0:v_sok (p1.getD j (0,0,0)).1 := hx.s
  have hr := v_rsm_of hm s0
  have hrd := hr.d
  have hrn := hr.n
  have x1 := hx.lo
  have x2 := hx.le
  have x3 := hx.hi
  have er := v_dist_redu (q := v_resp (p1.getD j (0,0,0)).1 p0) (d := p1.getD j (0,0,0)) x2
  have m1 := mul_in (x := (p1.getD j (0,0,0)).2.1) (y := (v_frac (v_resp (p1.getD j (0,0,0)).1 p0)).2) x1 (show (p1.getD j (0,0,0)).2.1≤100000 by omega) (by omega) hrd.2
  have m2 := mul_in (x := (p1.getD j (0,0,0)).2.2) (y := (v_frac (v_resp (p1.getD j (0,0,0)).1 p0)).2) (show 0≤(p1.getD j (0,0,0)).2.2 by omega) (show (p1.getD j (0,0,0)).2.2≤100000 by omega) (by omega) hrd.2
  have w1:IntKind.i64.wrap ((p1.getD j (0,0,0)).2.1 * (v_frac (v_resp (p1.getD j (0,0,0)).1 p0)).2)=(p1.getD j (0,0,0)).2.1 * (v_frac (v_resp (p1.getD j (0,0,0)).1 p0)).2 := wrap_id (by omega) (by omega)
  have w2:IntKind.i64.wrap (1000 * (v_frac (v_resp (p1.getD j (0,0,0)).1 p0)).1)=1000 * (v_frac (v_resp (p1.getD j (0,0,0)).1 p0)).1 := wrap_id (by omega) (by omega)
  have w3:IntKind.i64.wrap ((p1.getD j (0,0,0)).2.2 * (v_frac (v_resp (p1.getD j (0,0,0)).1 p0)).2)=(p1.getD j (0,0,0)).2.2 * (v_frac (v_resp (p1.getD j (0,0,0)).1 p0)).2 := wrap_id (by omega) (by omega)
  have w4:IntKind.i64.wrap ((p1.getD j (0,0,0)).2.1 * (v_frac (v_resp (p1.getD j (0,0,0)).1 p0)).2 - 1000 * (v_frac (v_resp (p1.getD j (0,0,0)).1 p0)).1)=(p1.getD j (0,0,0)).2.1 * (v_frac (v_resp (p1.getD j (0,0,0)).1 p0)).2 - 1000 * (v_frac (v_resp (p1.getD j (0,0,0)).1 p0)).1 := wrap_id (by omega) (by omega)
  have w5:IntKind.i64.wrap (1000 * (v_frac (v_resp (p1.getD j (0,0,0)).1 p0)).1 - (p1.getD j (0,0,0)).2.2 * (v_frac (v_resp (p1.getD j (0,0,0)).1 p0)).2)=1000 * (v_frac (v_resp (p1.getD j (0,0,0)).1 p0)).1 - (p1.getD j (0,0,0)).2.2 * (v_frac (v_resp (p1.getD j (0,0,0)).1 p0)).2 := wrap_id (by omega) (by omega)
  have ob:(0≤(max (max 0 ((p1.getD j (0,0,0)).2.1 * (v_frac (v_resp (p1.getD j (0,0,0)).1 p0)).2 - 1000 * (v_frac (v_resp (p1.getD j (0,0,0)).1 p0)).1)) (1000 * (v_frac (v_resp (p1.getD j (0,0,0)).1 p0)).1 - (p1.getD j (0,0,0)).2.2 * (v_frac (v_resp (p1.getD j (0,0,0)).1 p0)).2):Int)∧(max (max 0 ((p1.getD j (0,0,0)).2.1 * (v_frac (v_resp (p1.getD j (0,0,0)).1 p0)).2 - 1000 * (v_frac (v_resp (p1.getD j (0,0,0)).1 p0)).1)) (1000 * (v_frac (v_resp (p1.getD j (0,0,0)).1 p0)).1 - (p1.getD j (0,0,0)).2.2 * (v_frac (v_resp (p1.getD j (0,0,0)).1 p0)).2):Int)≤9223372036854775807) := by omega
  have bq:v_qok (v_dist (v_resp (p1.getD j (0,0,0)).1 p0) (p1.getD j (0,0,0))) := by
   have := v_frac_le ob.1 hrd.1
   have e3:v_redu _ _ = v_frac _ := er
   unfold v_redu at e3
   rw [e3] at this
   have hp := v_frac_pos (v_dist (v_resp (p1.getD j (0,0,0)).1 p0) (p1.getD j (0,0,0)))
   exact ⟨by omega,by omega⟩
  have bn := bq.n
  have bd := bq.d
  have hwn := hw.n
  have hwd := hw.d
  simp only [sp_ground_misfit_0,st_ground_misfit_0,List.forall_mem_cons,hd1,cond_true,Int.toNat_natCast,hw1,w1,w2,w3,w4,w5,er,v_qab_frac]
  refine ⟨?_,.inl ?_⟩
  ·and_intros
   all_goals first
    | (intro p hp; cases hp; done)
    | (intros; assumption)
    | (intros; omega)
  ·rw [drop_getD (0,0,0) hj,v_rq_frac]
   rcases Decidable.em (w < v_dist (v_resp (p1.getD j (0,0,0)).1 p0) (p1.getD j (0,0,0))) with c | c
   ·refine ⟨v_frac (v_dist (v_resp (p1.getD j (0,0,0)).1 p0) (p1.getD j (0,0,0))),?_,⟨_,rfl,bq⟩,?_⟩
    ·rw [decide_eq_true c]; rfl
    ·rw [v_rq_frac]
     show _ = v_frac (v_misf p0 (v_rmax w _) _)
     unfold v_rmax
     rw [decide_eq_true c]; rfl
   ·refine ⟨v_frac w,?_,⟨_,rfl,hw⟩,?_⟩
    ·rw [decide_eq_false c]; rfl
    ·rw [v_rq_frac]
     show _ = v_frac (v_misf p0 (v_rmax w _) _)
     unfold v_rmax
     rw [decide_eq_false c]; rfl
def v_misfr (m:List (Int×Int)) (l:List (Int×Int×Int)):Int×Int := v_frac (v_misf m ((0:Int):Rat) l)
abbrev t_ground_misfit (p0:List (Int×Int)) (p1:List (Int×Int×Int)):Int×Int := v_misfr p0 p1
abbrev qre_ground_misfit (p0:List (Int×Int)) (p1:List (Int×Int×Int)):List Prop := [v_mok p0,v_dat p1]
theorem pp_ground_misfit (p0:List (Int×Int)) (p1:List (Int×Int×Int)) (hq:∀ p∈qre_ground_misfit p0 p1,p):∀ p∈pre_ground_misfit p0 p1,p := by
 obtain ⟨h1,h2,_⟩ := conj_of hq
 simp only [pre_ground_misfit,List.forall_mem_cons]
 exact ⟨(l_ground_misfit_0 p0 p1 h1 h2).1,(by intro p hp; cases hp)⟩
theorem tt_ground_misfit (p0:List (Int×Int)) (p1:List (Int×Int×Int)) (hq:∀ p∈qre_ground_misfit p0 p1,p):s_ground_misfit p0 p1 = t_ground_misfit p0 p1 := by
 obtain ⟨h1,h2,_⟩ := conj_of hq
 exact (l_ground_misfit_0 p0 p1 h1 h2).2

abbrev con_ground_misfit:Con := ⟨P_ground_misfit,R_ground_misfit,fun x => qre_ground_misfit x.1 x.2,fun x => t_ground_misfit x.1 x.2⟩
theorem ok_ground_misfit:ConOk Try.prog 111 con_ground_misfit := ⟨k_ground_misfit,fun x hx => ret_tf (ps := P_ground_misfit) (rs := R_ground_misfit) (x := x) (y := t_ground_misfit x.1 x.2) e_ground_misfit hC_ground_misfit (tf_of (w_ground_misfit_eq x.1 x.2 (fun z => z = t_ground_misfit x.1 x.2)) (d_ground_misfit x.1 x.2 (fun z => z = t_ground_misfit x.1 x.2) (pp_ground_misfit x.1 x.2 hx) (tt_ground_misfit x.1 x.2 hx)))⟩
/- ref04_ModelErr -/
def C_ref04_ModelErr:Cons := [(17,[],con_ref04_CheckModel)]
theorem hC_ref04_ModelErr:ConsOk Try.prog C_ref04_ModelErr := ConsOk.cons ok_ref04_CheckModel <| ConsOk.nil
def w_ref04_ModelErr (p0:(List (Int×Int))) (K:Int→Prop):Prop :=
  (K (v_cm p0).2)
set_option maxHeartbeats 4000000 in
theorem w_ref04_ModelErr_eq (p0:(List (Int×Int))) (K:Int→Prop):tfn F_ref04_ModelErr A_ref04_ModelErr C_ref04_ModelErr P_ref04_ModelErr R_ref04_ModelErr p0 K = w_ref04_ModelErr p0 K := by kernel_rfl
def s_ref04_ModelErr (p0:(List (Int×Int))):Int :=
 (v_cm p0).2
abbrev pre_ref04_ModelErr (_p0:(List (Int×Int))):List Prop := []
set_option maxHeartbeats 4000000 in
theorem d_ref04_ModelErr (p0:(List (Int×Int))) (K:Int→Prop) (_hp:∀ p∈pre_ref04_ModelErr p0,p) (h:K (s_ref04_ModelErr p0)):w_ref04_ModelErr p0 K := by
 unfold w_ref04_ModelErr
 unfold s_ref04_ModelErr at h
 exact h
abbrev con_ref04_ModelErr:Con := ⟨P_ref04_ModelErr,R_ref04_ModelErr,fun x => pre_ref04_ModelErr x,fun x => s_ref04_ModelErr x⟩
theorem ok_ref04_ModelErr:ConOk Try.prog 21 con_ref04_ModelErr := ⟨k_ref04_ModelErr,fun x hx => ret_tf (ps := P_ref04_ModelErr) (rs := R_ref04_ModelErr) (x := x) (y := s_ref04_ModelErr x) e_ref04_ModelErr hC_ref04_ModelErr (tf_of (w_ref04_ModelErr_eq x (fun z => z = s_ref04_ModelErr x)) (d_ref04_ModelErr x (fun z => z = s_ref04_ModelErr x) hx rfl))⟩
/- ref04_BothErr -/
/- ground_bothErr -/
/- ground_AnswerFor -/
/- ground_MisfitOf -/
def C_ground_MisfitOf:Cons := [(77,[],con_ground_modelErr),(101,[],con_ground_dataErr),(73,[],con_ground_first),(111,[],con_ground_misfit),(80,[],con_ground_quotient_frac)]
theorem hC_ground_MisfitOf:ConsOk Try.prog C_ground_MisfitOf := ConsOk.cons ok_ground_modelErr <| ConsOk.cons ok_ground_dataErr <| ConsOk.cons ok_ground_first <| ConsOk.cons ok_ground_misfit <| ConsOk.cons ok_ground_quotient_frac <| ConsOk.nil
def w_ground_MisfitOf (p0:(List (Int×Int))) (p1:(List (Int×(Int×Int)))) (K:((Int×Int)×Int)→Prop):Prop :=
  ((lenOk ((v_cm p0).2 :: ((v_cd p1).2 :: ([]:List Int)))) ∧
 (((((v_first ((v_cm p0).2 :: ((v_cd p1).2 :: ([]:List Int)))) != 0)=true) →
 (K (((0:Int),(0:Int)),(v_first ((v_cm p0).2 :: ((v_cd p1).2 :: ([]:List Int))))))) ∧
 ((((v_first ((v_cm p0).2 :: ((v_cd p1).2 :: ([]:List Int)))) != 0)=false) →
 ((v_mok p0) ∧
  ((v_dat p1) ∧
  (K (s_ground_quotient_frac (v_misfr p0 p1))))))))
set_option maxHeartbeats 4000000 in
theorem w_ground_MisfitOf_eq (p0:(List (Int×Int))) (p1:(List (Int×(Int×Int)))) (K:((Int×Int)×Int)→Prop):tfn F_ground_MisfitOf A_ground_MisfitOf C_ground_MisfitOf P_ground_MisfitOf R_ground_MisfitOf (p0,p1) K = w_ground_MisfitOf p0 p1 K := by kernel_rfl
def s_ground_MisfitOf (p0:(List (Int×Int))) (p1:(List (Int×(Int×Int)))):((Int×Int)×Int) :=
 (cond ((v_first ((v_cm p0).2 :: ((v_cd p1).2 :: ([]:List Int)))) != 0) (((0:Int),(0:Int)),(v_first ((v_cm p0).2 :: ((v_cd p1).2 :: ([]:List Int)))))
  (s_ground_quotient_frac (v_misfr p0 p1)))
abbrev pre_ground_MisfitOf (p0:(List (Int×Int))) (p1:(List (Int×(Int×Int)))):List Prop := [((((v_first ((v_cm p0).2 :: ((v_cd p1).2 :: ([]:List Int)))) != 0)=false)→(v_mok p0)),
  ((((v_first ((v_cm p0).2 :: ((v_cd p1).2 :: ([]:List Int)))) != 0)=false)→(v_dat p1))]
set_option maxHeartbeats 4000000 in
theorem d_ground_MisfitOf (p0:(List (Int×Int))) (p1:(List (Int×(Int×Int)))) (K:((Int×Int)×Int)→Prop) (hp:∀ p∈pre_ground_MisfitOf p0 p1,p) (h:K (s_ground_MisfitOf p0 p1)):w_ground_MisfitOf p0 p1 K := by
 unfold w_ground_MisfitOf
 unfold s_ground_MisfitOf at h
 obtain ⟨hp0,hp1,_⟩ := conj_of hp
 exact ⟨(lenOk_of 2 rfl (by decide)),(br' h (fun e0 h => h)
  (fun e0 h => ⟨(hp0 e0),(hp1 e0),h⟩))⟩
/-- The misfit with its error. -/
def v_mof (m:List (Int×Int)) (l:List (Int×Int×Int)):(Int×Int)×Int := cond ((v_cm m).2 != 0) ((0,0),(v_cm m).2) (cond ((v_cd l).2 != 0) ((0,0),(v_cd l).2) (s_ground_quotient_frac (v_misfr m l)))
abbrev t_ground_MisfitOf (p0:List (Int×Int)) (p1:List (Int×Int×Int)):(Int×Int)×Int := v_mof p0 p1
abbrev qre_ground_MisfitOf (_p0:List (Int×Int)) (_p1:List (Int×Int×Int)):List Prop := []
theorem pp_ground_MisfitOf (p0:List (Int×Int)) (p1:List (Int×Int×Int)) (_hq:∀ p∈qre_ground_MisfitOf p0 p1,p):∀ p∈pre_ground_MisfitOf p0 p1,p := by
 have key:(v_first [(v_cm p0).2,(v_cd p1).2] != 0)=false→v_mok p0∧v_dat p1 := fun h => by
  obtain ⟨h1,h2⟩ := tx_first1 h
  exact ⟨tx_cm_ok h1,(tx_cd_ok h2).1⟩
 simp only [pre_ground_MisfitOf,List.forall_mem_cons]
 exact ⟨fun h => (key h).1,fun h => (key h).2,by simp⟩
theorem tt_ground_MisfitOf (p0:List (Int×Int)) (p1:List (Int×Int×Int)) (_hq:∀ p∈qre_ground_MisfitOf p0 p1,p):s_ground_MisfitOf p0 p1 = t_ground_MisfitOf p0 p1 := by
 unfold s_ground_MisfitOf t_ground_MisfitOf v_mof
 rw [tx_first2]
 rcases int0 (v_cm p0).2 with ⟨z,e,_⟩ | ⟨z,e,_⟩ <;> rw [e]
 ·rcases int0 (v_cd p1).2 with ⟨y,f,_⟩ | ⟨y,f,_⟩ <;> rw [cond_false,f]
  ·rfl
  ·rfl
 ·rw [cond_true,e]; rfl

abbrev con_ground_MisfitOf:Con := ⟨P_ground_MisfitOf,R_ground_MisfitOf,fun x => qre_ground_MisfitOf x.1 x.2,fun x => t_ground_MisfitOf x.1 x.2⟩
theorem ok_ground_MisfitOf:ConOk Try.prog 53 con_ground_MisfitOf := ⟨k_ground_MisfitOf,fun x hx => ret_tf (ps := P_ground_MisfitOf) (rs := R_ground_MisfitOf) (x := x) (y := t_ground_MisfitOf x.1 x.2) e_ground_MisfitOf hC_ground_MisfitOf (tf_of (w_ground_MisfitOf_eq x.1 x.2 (fun z => z = t_ground_MisfitOf x.1 x.2)) (d_ground_MisfitOf x.1 x.2 (fun z => z = t_ground_MisfitOf x.1 x.2) (pp_ground_MisfitOf x.1 x.2 hx) (tt_ground_MisfitOf x.1 x.2 hx)))⟩
/- base_IsSmall -/
def C_base_IsSmall:Cons := [(35,[],con_base_Within)]
theorem hC_base_IsSmall:ConsOk Try.prog C_base_IsSmall := ConsOk.cons ok_base_Within <| ConsOk.nil
def w_base_IsSmall (p0:(Int×Int)) (K:Bool→Prop):Prop :=
  ((((s_base_Within p0.1 (-1000000000:Int) (1000000000:Int))=true) →
 ((s_base_Within p0.1 (-1000000000:Int) (1000000000:Int))=(s_base_Within p0.1 (-1000000000:Int) (1000000000:Int)))) ∧
 ((((s_base_Within p0.1 (-1000000000:Int) (1000000000:Int))=true) →
 ((s_base_Within p0.1 (-1000000000:Int) (1000000000:Int))=(s_base_Within p0.1 (-1000000000:Int) (1000000000:Int)))) ∧
 (((s_base_Within p0.1 (-1000000000:Int) (1000000000:Int))=(s_base_Within p0.1 (-1000000000:Int) (1000000000:Int))) ∧
 (K (cond (s_base_Within p0.1 (-1000000000:Int) (1000000000:Int)) (s_base_Within p0.2 (1:Int) (1000000000:Int)) false)))))
set_option maxHeartbeats 4000000 in
theorem w_base_IsSmall_eq (p0:(Int×Int)) (K:Bool→Prop):tfn F_base_IsSmall A_base_IsSmall C_base_IsSmall P_base_IsSmall R_base_IsSmall p0 K = w_base_IsSmall p0 K := by kernel_rfl
def s_base_IsSmall (p0:(Int×Int)):Bool :=
 (cond (s_base_Within p0.1 (-1000000000:Int) (1000000000:Int)) (s_base_Within p0.2 (1:Int) (1000000000:Int)) false)
abbrev pre_base_IsSmall (_p0:(Int×Int)):List Prop := []
set_option maxHeartbeats 4000000 in
theorem d_base_IsSmall (p0:(Int×Int)) (K:Bool→Prop) (_hp:∀ p∈pre_base_IsSmall p0,p) (h:K (s_base_IsSmall p0)):w_base_IsSmall p0 K := by
 unfold w_base_IsSmall
 unfold s_base_IsSmall at h
 exact ⟨rf,rf,rfl,h⟩
abbrev con_base_IsSmall:Con := ⟨P_base_IsSmall,R_base_IsSmall,fun x => pre_base_IsSmall x,fun x => s_base_IsSmall x⟩
theorem ok_base_IsSmall:ConOk Try.prog 23 con_base_IsSmall := ⟨k_base_IsSmall,fun x hx => ret_tf (ps := P_base_IsSmall) (rs := R_base_IsSmall) (x := x) (y := s_base_IsSmall x) e_base_IsSmall hC_base_IsSmall (tf_of (w_base_IsSmall_eq x (fun z => z = s_base_IsSmall x)) (d_base_IsSmall x (fun z => z = s_base_IsSmall x) hx rfl))⟩
/- base_WideInt -/
def C_base_WideInt:Cons := []
theorem hC_base_WideInt:ConsOk Try.prog C_base_WideInt := ConsOk.nil
def w_base_WideInt (p0:(Int×(List Int))) (K:(Int×Bool)→Prop):Prop :=
  ((((decide ((List.length p0.2:Int) > 2))=true) →
 (K ((0:Int),false))) ∧
 (((decide ((List.length p0.2:Int) > 2))=false) →
 (∃ n0,(loopP (fun (y1:(Int×Int)) k2 =>
   ((((decide (y1.1 ≥ 0))=true) →
   (((0:Int)≤y1.1) ∧
    ((y1.1 < (List.length p0.2:Int)) ∧
    (k2 ((IntKind.i64.wrap (y1.1 - 1)),(IntKind.i64.wrap ((IntKind.i64.wrap (y1.2 * 1000000000)) + (p0.2.getD y1.1.toNat 0)))))))) ∧
   (((decide (y1.1 ≥ 0))=false) →
   (K ((IntKind.i64.wrap (p0.1 * y1.2)),true))))) n0 ((IntKind.i64.wrap ((List.length p0.2:Int) - 1)),(0:Int))))))
set_option maxHeartbeats 4000000 in
theorem w_base_WideInt_eq (p0:(Int×(List Int))) (K:(Int×Bool)→Prop):tfn F_base_WideInt A_base_WideInt C_base_WideInt P_base_WideInt R_base_WideInt p0 K = w_base_WideInt p0 K := by kernel_rfl
def st_base_WideInt_0 (p0:(Int×(List Int))) (y1:(Int×Int)):(Int×Int) ⊕ (Int×Bool) :=
 (cond (decide (y1.1 ≥ 0)) (Sum.inl ((IntKind.i64.wrap (y1.1 - 1)),(IntKind.i64.wrap ((IntKind.i64.wrap (y1.2 * 1000000000)) + (p0.2.getD y1.1.toNat 0)))))
  (Sum.inr ((IntKind.i64.wrap (p0.1 * y1.2)),true)))
abbrev sp_base_WideInt_0 (p0:(Int×(List Int))) (y1:(Int×Int)):List Prop := [(((decide (y1.1 ≥ 0))=true)→((0:Int)≤y1.1)),
  (((decide (y1.1 ≥ 0))=true)→(y1.1 < (List.length p0.2:Int)))]
def s_base_WideInt (p0:(Int×(List Int))):(Int×Bool) :=
 (cond (decide ((List.length p0.2:Int) > 2)) ((0:Int),false)
  (lpv ((0:Int),false) (st_base_WideInt_0 p0) ((IntKind.i64.wrap ((List.length p0.2:Int) - 1)),(0:Int))))
abbrev pre_base_WideInt (p0:(Int×(List Int))):List Prop := [(((decide ((List.length p0.2:Int) > 2))=false)→(OkL (st_base_WideInt_0 p0) (sp_base_WideInt_0 p0) ((IntKind.i64.wrap ((List.length p0.2:Int) - 1)),(0:Int))))]
set_option maxHeartbeats 4000000 in
theorem d_base_WideInt (p0:(Int×(List Int))) (K:(Int×Bool)→Prop) (hp:∀ p∈pre_base_WideInt p0,p) (h:K (s_base_WideInt p0)):w_base_WideInt p0 K := by
 unfold w_base_WideInt
 unfold s_base_WideInt at h
 obtain ⟨hp0,_⟩ := conj_of hp
 exact (br' h (fun e0 h => h)
  (fun e0 h => (loop_gen (hp0 e0) h (fun y1 k1 hp h => by
 unfold st_base_WideInt_0 at h; obtain ⟨hp0,hp1,_⟩ := conj_of hp
 exact (br' h (fun e2 h => ⟨(hp0 e2),(hp1 e2),h⟩)
  (fun e2 h => h))))))
/-- A number as an int,if it is small. -/
def v_wint (n:Int):Int×Bool := cond (decide (n.natAbs < 1000000000000000000)) (n,true) (0,false)
theorem l_base_WideInt_0 (p0:Int×List Int) (h:v_wok p0) (hl:p0.2.length≤2):OkL (st_base_WideInt_0 p0) (sp_base_WideInt_0 p0) (IntKind.i64.wrap ((p0.2.length:Int) - 1),0)∧lpv (0,false) (st_base_WideInt_0 p0) (IntKind.i64.wrap ((p0.2.length:Int) - 1),0)=(v_wval p0,true) := by
 obtain ⟨n,en,_⟩ := h.ex
 have wn:v_wval p0 = n := by rw [en,v_wval_wide]
 have d0:v_dgok p0.2 := by rw [en]; exact v_wide_ok n
 have vn:v_val p0.2 = n.natAbs := by rw [en]; exact v_wide_val n
 have s0:p0.1 = n.sign := by rw [en]; rfl
 have small:∀ j,0≤v_val (p0.2.drop j)∧v_val (p0.2.drop j) < 1000000000000000000 := fun j => by
  have h1 := v_val_nn (v_dgok_drop d0 j)
  have h2 := v_val_lt (v_dgok_drop d0 j)
  have h3 := v_pow_le (show (p0.2.drop j).length≤2 by rw [List.length_drop]; omega)
  rw [show v_pow 2 = 1000000000000000000 from by decide] at h3
  omega
 rw [wrap_id (n := (p0.2.length:Int) - 1) (by omega) (by omega),wn]
 refine @down_is Int (Int×Int) (Int×Bool) (0,false) (st_base_WideInt_0 p0) (sp_base_WideInt_0 p0) (fun i t => (i,t)) p0.2.length (fun j t => t = v_val (p0.2.drop j)) (fun _ _ => (n,true)) (by omega) ?_ ?_ 0 (by rw [List.drop_length]; rfl)
 ·rintro t rfl
  simp only [sp_base_WideInt_0,st_base_WideInt_0,List.forall_mem_cons,show decide ((-1:Int) ≥ 0)=false from rfl,cond_false,List.drop_zero]
  refine ⟨⟨fun h => (by cases h),fun h => (by cases h),by simp⟩,?_⟩
  have := small 0
  rw [List.drop_zero] at this
  rw [s0,vn,v_sign_abs,wrap_id (n := n) (by omega) (by omega)]
 ·rintro j t hj rfl
  have hd := v_dgok_get d0 j
  have h1 := small (j + 1)
  have h2 := small j
  have e:v_val (p0.2.drop j)=p0.2.getD j 0 + 1000000000 * v_val (p0.2.drop (j + 1)) := by rw [drop_getD 0 hj]; rfl
  simp only [sp_base_WideInt_0,st_base_WideInt_0,List.forall_mem_cons,show decide ((j:Int) ≥ 0)=true from decide_eq_true (by omega),cond_true,Int.toNat_natCast]
  refine ⟨⟨fun _ => by omega,fun _ => by omega,by simp⟩,.inl ⟨v_val (p0.2.drop j),?_,rfl,trivial⟩⟩
  rw [w_add_l,wrap_id (n := (j:Int) - 1) (by omega) (by omega),e,wrap_id (n := v_val (p0.2.drop (j + 1)) * 1000000000 + p0.2.getD j 0) (by omega) (by omega)]
  congr 2
  omega
abbrev t_base_WideInt (p0:Int×List Int):Int×Bool := v_wint (v_wval p0)
abbrev qre_base_WideInt (p0:Int×List Int):List Prop := [v_wok p0]
theorem pp_base_WideInt (p0:Int×List Int) (hq:∀ p∈qre_base_WideInt p0,p):∀ p∈pre_base_WideInt p0,p := by
 obtain ⟨h,_⟩ := conj_of hq
 simp only [pre_base_WideInt,List.forall_mem_cons]
 exact ⟨fun c => (l_base_WideInt_0 p0 h (by have := of_decide_eq_false c; omega)).1,by simp⟩
theorem tt_base_WideInt (p0:Int×List Int) (hq:∀ p∈qre_base_WideInt p0,p):s_base_WideInt p0 = t_base_WideInt p0 := by
 obtain ⟨h,_⟩ := conj_of hq
 unfold s_base_WideInt t_base_WideInt v_wint
 obtain ⟨n,en,_⟩ := h.ex
 have wn:v_wval p0 = n := by rw [en,v_wval_wide]
 have hl:p0.2.length = v_dl n := by rw [en]; rfl
 rw [wn]
 rcases Nat.lt_or_ge 2 p0.2.length with c | c
 ·rw [decide_eq_true (show (p0.2.length:Int) > 2 by omega),cond_true]
  have h1:¬ n.natAbs < 1000000000000000000 := fun k => by
   have:v_dl n≤2 := v_digs_len (by rw [show v_pow 2 = 1000000000000000000 from by decide]; omega)
   omega
  rw [decide_eq_false h1,cond_false]
 ·have e := (l_base_WideInt_0 p0 h c).2
  rw [decide_eq_false (show ¬ (p0.2.length:Int) > 2 by omega),cond_false,e,wn]
  have h1:n.natAbs < 1000000000000000000 := by
   have h2 := v_digs_high n.natAbs
   have h3 := v_pow_le (show (v_digs n.natAbs).length≤2 by unfold v_dl at hl; omega)
   rw [show v_pow 2 = 1000000000000000000 from by decide] at h3
   omega
  rw [decide_eq_true h1,cond_true]

abbrev con_base_WideInt:Con := ⟨P_base_WideInt,R_base_WideInt,fun x => qre_base_WideInt x,fun x => t_base_WideInt x⟩
theorem ok_base_WideInt:ConOk Try.prog 83 con_base_WideInt := ⟨k_base_WideInt,fun x hx => ret_tf (ps := P_base_WideInt) (rs := R_base_WideInt) (x := x) (y := t_base_WideInt x) e_base_WideInt hC_base_WideInt (tf_of (w_base_WideInt_eq x (fun z => z = t_base_WideInt x)) (d_base_WideInt x (fun z => z = t_base_WideInt x) (pp_base_WideInt x hx) (tt_base_WideInt x hx)))⟩
/- base_RatioFrac -/
def C_base_RatioFrac:Cons := [(83,[],con_base_WideInt),(23,[],con_base_IsSmall)]
theorem hC_base_RatioFrac:ConsOk Try.prog C_base_RatioFrac := ConsOk.cons ok_base_WideInt <| ConsOk.cons ok_base_IsSmall <| ConsOk.nil
abbrev q0_base_RatioFrac (p0:((Int×(List Int))×(Int×(List Int)))) := (cond (!(v_wint (v_wval p0.1)).2) true (!(v_wint (v_wval p0.2)).2))
def w_base_RatioFrac (p0:((Int×(List Int))×(Int×(List Int)))) (K:((Int×Int)×Bool)→Prop):Prop :=
  ((v_wok p0.1) ∧
 ((v_wok p0.2) ∧
 ((((!(v_wint (v_wval p0.1)).2)=false) →
 ((!(v_wint (v_wval p0.1)).2)=(!(v_wint (v_wval p0.1)).2))) ∧
 (((!(v_wint (v_wval p0.1)).2)=(!(v_wint (v_wval p0.1)).2)) ∧
 ((((q0_base_RatioFrac p0)=false) →
 ((q0_base_RatioFrac p0)=(q0_base_RatioFrac p0))) ∧
 ((((q0_base_RatioFrac p0)=false) →
 ((q0_base_RatioFrac p0)=(q0_base_RatioFrac p0))) ∧
 (((q0_base_RatioFrac p0)=(q0_base_RatioFrac p0)) ∧
 ((((cond (q0_base_RatioFrac p0) true (!(s_base_IsSmall ((v_wint (v_wval p0.1)).1,(v_wint (v_wval p0.2)).1))))=true) →
 (K ((zz0,zz0),false))) ∧
 (((cond (q0_base_RatioFrac p0) true (!(s_base_IsSmall ((v_wint (v_wval p0.1)).1,(v_wint (v_wval p0.2)).1))))=false) →
 (K (((v_wint (v_wval p0.1)).1,(v_wint (v_wval p0.2)).1),true)))))))))))
set_option maxHeartbeats 4000000 in
theorem w_base_RatioFrac_eq (p0:((Int×(List Int))×(Int×(List Int)))) (K:((Int×Int)×Bool)→Prop):tfn F_base_RatioFrac A_base_RatioFrac C_base_RatioFrac P_base_RatioFrac R_base_RatioFrac p0 K = w_base_RatioFrac p0 K := by kernel_rfl
def s_base_RatioFrac (p0:((Int×(List Int))×(Int×(List Int)))):((Int×Int)×Bool) :=
 (cond (cond (cond (!(v_wint (v_wval p0.1)).2) true (!(v_wint (v_wval p0.2)).2)) true (!(s_base_IsSmall ((v_wint (v_wval p0.1)).1,(v_wint (v_wval p0.2)).1)))) (((0:Int),(0:Int)),false)
  (((v_wint (v_wval p0.1)).1,(v_wint (v_wval p0.2)).1),true))
abbrev pre_base_RatioFrac (p0:((Int×(List Int))×(Int×(List Int)))):List Prop := [(v_wok p0.1),
  (v_wok p0.2)]
set_option maxHeartbeats 4000000 in
theorem d_base_RatioFrac (p0:((Int×(List Int))×(Int×(List Int)))) (K:((Int×Int)×Bool)→Prop) (hp:∀ p∈pre_base_RatioFrac p0,p) (h:K (s_base_RatioFrac p0)):w_base_RatioFrac p0 K := by
 unfold w_base_RatioFrac
 unfold s_base_RatioFrac at h
 obtain ⟨hp0,hp1,_⟩ := conj_of hp
 exact ⟨(hp0),(hp1),rf,rfl,rf,rf,rfl,(br' h (fun e0 h => h)
  (fun e0 h => h))⟩
def v_rfr (q:Rat):(Int×Int)×Bool := cond (decide (q.num.natAbs≤1000000000∧q.den≤1000000000)) (v_frac q,true) ((0,0),false)
abbrev v_smallf (x:Int×Int):Bool := s_base_IsSmall x
theorem v_small_t {q:Rat} (c:q.num.natAbs≤1000000000∧q.den≤1000000000) (h:0 < q.den):s_base_IsSmall (q.num,(q.den:Int))=true := by
 unfold s_base_IsSmall
 rw [tx_within.2 (by omega),tx_within.2 (by omega)]; rfl
theorem v_small_f {q:Rat} (c:¬ (q.num.natAbs≤1000000000∧q.den≤1000000000)):s_base_IsSmall (q.num,(q.den:Int))=false := by
 unfold s_base_IsSmall
 cases h1:s_base_Within q.num (-1000000000) 1000000000
 ·rfl
 ·cases h2:s_base_Within (q.den:Int) 1 1000000000
  ·rfl
  ·have h1 := tx_within.1 h1
   have h2 := tx_within.1 h2
   exact (c (by omega)).elim
abbrev t_base_RatioFrac (p0:(Int×List Int)×(Int×List Int)):(Int×Int)×Bool := v_rfr (v_rv p0)
abbrev qre_base_RatioFrac (p0:(Int×List Int)×(Int×List Int)):List Prop := [v_rok p0]
theorem pp_base_RatioFrac (p0:(Int×List Int)×(Int×List Int)) (hq:∀ p∈qre_base_RatioFrac p0,p):∀ p∈pre_base_RatioFrac p0,p := by
 obtain ⟨h1,_⟩ := conj_of hq
 obtain ⟨q,rfl,a1,a2⟩ := h1.ex
 simp only [pre_base_RatioFrac,List.forall_mem_cons,v_rat_1,v_rat_2]
 and_intros
 all_goals first
  | (intro p hp; cases hp; done)
  | (intros; assumption)
  | (intros; rw [v_wval_wide]; assumption)
  | (intros; apply v_wok_of; omega)
  | (intros; rw [v_wide_len]; omega)
  | omega
  | (unfold v_fit at *; omega)
theorem tt_base_RatioFrac (p0:(Int×List Int)×(Int×List Int)) (hq:∀ p∈qre_base_RatioFrac p0,p):s_base_RatioFrac p0 = t_base_RatioFrac p0 := by
 obtain ⟨h1,_⟩ := conj_of hq
 obtain ⟨q,rfl,a1,a2⟩ := h1.ex
 have hd := q.den_pos
 unfold s_base_RatioFrac t_base_RatioFrac v_rfr
 simp only [v_rat_1,v_rat_2,v_rv_rat,v_wval_wide]
 rcases Decidable.em (q.num.natAbs≤1000000000∧q.den≤1000000000) with c | c
 ·have e1:v_wint q.num = (q.num,true) := by unfold v_wint; rw [decide_eq_true (by omega)]; rfl
  have e2:v_wint (q.den:Int)=((q.den:Int),true) := by unfold v_wint; rw [decide_eq_true (by omega)]; rfl
  rw [e1,e2,decide_eq_true c,v_small_t c hd]; rfl
 ·have e3:(cond (cond (v_wint q.num).2 (v_wint (q.den:Int)).2 false) (v_smallf ((v_wint q.num).1,(v_wint (q.den:Int)).1)) false)=false := by
   unfold v_wint
   rcases Decidable.em (q.num.natAbs < 1000000000000000000) with g | g
   ·rcases Decidable.em ((q.den:Int).natAbs < 1000000000000000000) with g2 | g2
    ·rw [decide_eq_true g,decide_eq_true g2]; exact v_small_f c
    ·rw [decide_eq_true g,decide_eq_false g2]; rfl
   ·rw [decide_eq_false g]; rfl
  rw [decide_eq_false c]
  revert e3
  unfold v_smallf
  cases (v_wint q.num).2 <;> cases (v_wint (q.den:Int)).2 <;> simp_all

abbrev con_base_RatioFrac:Con := ⟨P_base_RatioFrac,R_base_RatioFrac,fun x => qre_base_RatioFrac x,fun x => t_base_RatioFrac x⟩
theorem ok_base_RatioFrac:ConOk Try.prog 19 con_base_RatioFrac := ⟨k_base_RatioFrac,fun x hx => ret_tf (ps := P_base_RatioFrac) (rs := R_base_RatioFrac) (x := x) (y := t_base_RatioFrac x) e_base_RatioFrac hC_base_RatioFrac (tf_of (w_base_RatioFrac_eq x (fun z => z = t_base_RatioFrac x)) (d_base_RatioFrac x (fun z => z = t_base_RatioFrac x) (pp_base_RatioFrac x hx) (tt_base_RatioFrac x hx)))⟩
/- base_RatioSign -/
def C_base_RatioSign:Cons := [(139,[],con_base_WideSign)]
theorem hC_base_RatioSign:ConsOk Try.prog C_base_RatioSign := ConsOk.cons ok_base_WideSign <| ConsOk.nil
def w_base_RatioSign (p0:((Int×(List Int))×(Int×(List Int)))) (K:Int→Prop):Prop :=
  (K p0.1.1)
set_option maxHeartbeats 4000000 in
theorem w_base_RatioSign_eq (p0:((Int×(List Int))×(Int×(List Int)))) (K:Int→Prop):tfn F_base_RatioSign A_base_RatioSign C_base_RatioSign P_base_RatioSign R_base_RatioSign p0 K = w_base_RatioSign p0 K := by kernel_rfl
def s_base_RatioSign (p0:((Int×(List Int))×(Int×(List Int)))):Int :=
 p0.1.1
abbrev pre_base_RatioSign (_p0:((Int×(List Int))×(Int×(List Int)))):List Prop := []
set_option maxHeartbeats 4000000 in
theorem d_base_RatioSign (p0:((Int×(List Int))×(Int×(List Int)))) (K:Int→Prop) (_hp:∀ p∈pre_base_RatioSign p0,p) (h:K (s_base_RatioSign p0)):w_base_RatioSign p0 K := by
 unfold w_base_RatioSign
 unfold s_base_RatioSign at h
 exact h
abbrev t_base_RatioSign (p0:(Int×List Int)×(Int×List Int)):Int := v_rsgn p0
abbrev qre_base_RatioSign (p0:(Int×List Int)×(Int×List Int)):List Prop := [v_rok p0]
theorem pp_base_RatioSign (p0:(Int×List Int)×(Int×List Int)) (hq:∀ p∈qre_base_RatioSign p0,p):∀ p∈pre_base_RatioSign p0,p := by
 obtain ⟨h1,_⟩ := conj_of hq
 simp only [pre_base_RatioSign,List.forall_mem_cons]
 and_intros
 all_goals first
  | (intro p hp; cases hp; done)
  | (intros; assumption)
  | (intros; rw [v_wval_wide]; assumption)
  | (intros; apply v_wok_of; omega)
  | (intros; rw [v_wide_len]; omega)
  | omega
  | (unfold v_fit at *; omega)
theorem tt_base_RatioSign (p0:(Int×List Int)×(Int×List Int)) (hq:∀ p∈qre_base_RatioSign p0,p):s_base_RatioSign p0 = t_base_RatioSign p0 := by
 obtain ⟨h1,_⟩ := conj_of hq
 obtain ⟨q,rfl,d1,d2⟩ := h1.ex
 unfold s_base_RatioSign t_base_RatioSign v_rsgn
 rw [v_rat_1,v_rv_rat,v_wide_1]

abbrev con_base_RatioSign:Con := ⟨P_base_RatioSign,R_base_RatioSign,fun x => qre_base_RatioSign x,fun x => t_base_RatioSign x⟩
theorem ok_base_RatioSign:ConOk Try.prog 113 con_base_RatioSign := ⟨k_base_RatioSign,fun x hx => ret_tf (ps := P_base_RatioSign) (rs := R_base_RatioSign) (x := x) (y := t_base_RatioSign x) e_base_RatioSign hC_base_RatioSign (tf_of (w_base_RatioSign_eq x (fun z => z = t_base_RatioSign x)) (d_base_RatioSign x (fun z => z = t_base_RatioSign x) (pp_base_RatioSign x hx) (tt_base_RatioSign x hx)))⟩
/- ref04_Explains -/
def C_ref04_Explains:Cons := [(55,[],con_ref04_Misfit),(113,[],con_base_RatioSign)]
theorem hC_ref04_Explains:ConsOk Try.prog C_ref04_Explains := ConsOk.cons ok_ref04_Misfit <| ConsOk.cons ok_base_RatioSign <| ConsOk.nil
def w_ref04_Explains (p0:(List (Int×Int))) (p1:(List (Int×(Int×Int)))) (K:Bool→Prop):Prop :=
  ((v_mok p0) ∧
 ((v_dat p1) ∧
 ((v_rok (v_rat (v_misf0 p0 p1))) ∧
 (K ((v_rsgn (v_rat (v_misf0 p0 p1))) == 0)))))
set_option maxHeartbeats 4000000 in
theorem w_ref04_Explains_eq (p0:(List (Int×Int))) (p1:(List (Int×(Int×Int)))) (K:Bool→Prop):tfn F_ref04_Explains A_ref04_Explains C_ref04_Explains P_ref04_Explains R_ref04_Explains (p0,p1) K = w_ref04_Explains p0 p1 K := by kernel_rfl
def s_ref04_Explains (p0:(List (Int×Int))) (p1:(List (Int×(Int×Int)))):Bool :=
 ((v_rsgn (v_rat (v_misf0 p0 p1))) == 0)
abbrev pre_ref04_Explains (p0:(List (Int×Int))) (p1:(List (Int×(Int×Int)))):List Prop := [(v_mok p0),
  (v_dat p1),
  (v_rok (v_rat (v_misf0 p0 p1)))]
set_option maxHeartbeats 4000000 in
theorem d_ref04_Explains (p0:(List (Int×Int))) (p1:(List (Int×(Int×Int)))) (K:Bool→Prop) (hp:∀ p∈pre_ref04_Explains p0 p1,p) (h:K (s_ref04_Explains p0 p1)):w_ref04_Explains p0 p1 K := by
 unfold w_ref04_Explains
 unfold s_ref04_Explains at h
 obtain ⟨hp0,hp1,hp2,_⟩ := conj_of hp
 exact ⟨(hp0),(hp1),(hp2),h⟩
def v_rexpl (m:List (Int×Int)) (l:List (Int×Int×Int)):Bool := v_rsgn (v_rat (v_misf0 m l)) == 0
abbrev t_ref04_Explains (p0:List (Int×Int)) (p1:List (Int×Int×Int)):Bool := v_rexpl p0 p1
abbrev qre_ref04_Explains (p0:List (Int×Int)) (p1:List (Int×Int×Int)):List Prop := [v_mok p0,v_dat p1]
theorem pp_ref04_Explains (p0:List (Int×Int)) (p1:List (Int×Int×Int)) (hq:∀ p∈qre_ref04_Explains p0 p1,p):∀ p∈pre_ref04_Explains p0 p1,p := by
 obtain ⟨h1,h2,_⟩ := conj_of hq
 simp only [pre_ref04_Explains,List.forall_mem_cons]
 exact ⟨h1,h2,(v_misf_rb h1 h2.ok (v_rb_int (by decide) (by decide))).ok (by decide),(by intro p hp; cases hp)⟩
theorem tt_ref04_Explains (p0:List (Int×Int)) (p1:List (Int×Int×Int)) (_hq:∀ p∈qre_ref04_Explains p0 p1,p):s_ref04_Explains p0 p1 = t_ref04_Explains p0 p1 := by
 rfl

abbrev con_ref04_Explains:Con := ⟨P_ref04_Explains,R_ref04_Explains,fun x => qre_ref04_Explains x.1 x.2,fun x => t_ref04_Explains x.1 x.2⟩
theorem ok_ref04_Explains:ConOk Try.prog 56 con_ref04_Explains := ⟨k_ref04_Explains,fun x hx => ret_tf (ps := P_ref04_Explains) (rs := R_ref04_Explains) (x := x) (y := t_ref04_Explains x.1 x.2) e_ref04_Explains hC_ref04_Explains (tf_of (w_ref04_Explains_eq x.1 x.2 (fun z => z = t_ref04_Explains x.1 x.2)) (d_ref04_Explains x.1 x.2 (fun z => z = t_ref04_Explains x.1 x.2) (pp_ref04_Explains x.1 x.2 hx) (tt_ref04_Explains x.1 x.2 hx)))⟩
/- law04_GroundData -/
def C_law04_GroundData:Cons := [(12,[],con_law04_awake),(13,[],con_law04_few),(47,[],con_law04_fewData),(49,ownMark,con_ref04_CopyData),(52,[],con_ground_CheckData),(15,ownMark,con_ref04_CopyModel),(44,[],con_ground_Explains),(53,[],con_ground_MisfitOf),(54,[],con_ref04_CheckData),(21,[],con_ref04_ModelErr),(55,[],con_ref04_Misfit),(19,[],con_base_RatioFrac),(56,[],con_ref04_Explains)]
theorem hC_law04_GroundData:ConsOk Try.prog C_law04_GroundData := ConsOk.cons ok_law04_awake <| ConsOk.cons ok_law04_few <| ConsOk.cons ok_law04_fewData <| ConsOk.consO ok_ref04_CopyData <| ConsOk.cons ok_ground_CheckData <| ConsOk.consO ok_ref04_CopyModel <| ConsOk.cons ok_ground_Explains <| ConsOk.cons ok_ground_MisfitOf <| ConsOk.cons ok_ref04_CheckData <| ConsOk.cons ok_ref04_ModelErr <| ConsOk.cons ok_ref04_Misfit <| ConsOk.cons ok_base_RatioFrac <| ConsOk.cons ok_ref04_Explains <| ConsOk.nil
abbrev q2_law04_GroundData (p0:(List (Int×Int))) (p1:(List (Int×(Int×Int)))) := (v_expls (([]:List (Int×Int)) ++ p0) (s_ref04_CopyData p1))
abbrev q1_law04_GroundData (p0:(List (Int×Int))) (p1:(List (Int×(Int×Int)))) := (cond ((q2_law04_GroundData p0 p1).2 == zz0) ((q2_law04_GroundData p0 p1).1 == (v_rexpl p0 p1)) false)
abbrev q3_law04_GroundData (p0:(List (Int×Int))) (p1:(List (Int×(Int×Int)))) := (cond (v_rfr (v_rv (v_rat (v_misf0 p0 p1)))).2 ((v_mof (([]:List (Int×Int)) ++ p0) (s_ref04_CopyData p1)).2 == zz0) false)
abbrev q7_law04_GroundData (p0:(List (Int×Int))) (p1:(List (Int×(Int×Int)))) := (cond (q3_law04_GroundData p0 p1) (((v_mof (([]:List (Int×Int)) ++ p0) (s_ref04_CopyData p1)).1.1 == (v_rfr (v_rv (v_rat (v_misf0 p0 p1)))).1.1) && (((v_mof (([]:List (Int×Int)) ++ p0) (s_ref04_CopyData p1)).1.2 == (v_rfr (v_rv (v_rat (v_misf0 p0 p1)))).1.2) && true)) false)
abbrev q0_law04_GroundData (p0:(List (Int×Int))) (p1:(List (Int×(Int×Int)))) := ((!(q1_law04_GroundData p0 p1)) || (q7_law04_GroundData p0 p1))
abbrev q12_law04_GroundData (p0:(List (Int×Int))) (p1:(List (Int×(Int×Int)))) := (cond (!(v_rfr (v_rv (v_rat (v_misf0 p0 p1)))).2) ((v_mof (([]:List (Int×Int)) ++ p0) (s_ref04_CopyData p1)).2 == 8) false)
abbrev q4_law04_GroundData (p0:(List (Int×Int))) (p1:(List (Int×(Int×Int)))) := ((!(q0_law04_GroundData p0 p1)) && (q12_law04_GroundData p0 p1))
abbrev q10_law04_GroundData (p0:(List (Int×Int))) (p1:(List (Int×(Int×Int)))) := (cond ((q2_law04_GroundData p0 p1).2 == (v_cm p0).2) (!(q2_law04_GroundData p0 p1).1) false)
abbrev q5_law04_GroundData (p0:(List (Int×Int))) (p1:(List (Int×(Int×Int)))) := (cond (q10_law04_GroundData p0 p1) ((v_mof (([]:List (Int×Int)) ++ p0) (s_ref04_CopyData p1)).2 == (v_cm p0).2) false)
abbrev q11_law04_GroundData (p0:(List (Int×Int))) (p1:(List (Int×(Int×Int)))) := (cond ((q2_law04_GroundData p0 p1).2 == (v_cd p1).2) (!(q2_law04_GroundData p0 p1).1) false)
abbrev q6_law04_GroundData (p0:(List (Int×Int))) (p1:(List (Int×(Int×Int)))) := (cond (q11_law04_GroundData p0 p1) ((v_mof (([]:List (Int×Int)) ++ p0) (s_ref04_CopyData p1)).2 == (v_cd p1).2) false)
abbrev q8_law04_GroundData (p0:(List (Int×Int))) (p1:(List (Int×(Int×Int)))) := (((q2_law04_GroundData p0 p1).2 == zz0)=((q2_law04_GroundData p0 p1).2 == zz0))
abbrev q9_law04_GroundData (p0:(List (Int×Int))) (p1:(List (Int×(Int×Int)))) := (((v_mof (([]:List (Int×Int)) ++ p0) (s_ref04_CopyData p1)).1.1 == zz0) && (((v_mof (([]:List (Int×Int)) ++ p0) (s_ref04_CopyData p1)).1.2 == zz0) && true))
abbrev q13_law04_GroundData (p0:(List (Int×Int))) (p1:(List (Int×(Int×Int)))) := ((!(q0_law04_GroundData p0 p1)) && (!(v_rfr (v_rv (v_rat (v_misf0 p0 p1)))).2))
abbrev q14_law04_GroundData (p0:(List (Int×Int))) (p1:(List (Int×(Int×Int)))) := ((q1_law04_GroundData p0 p1) && (q3_law04_GroundData p0 p1))
abbrev q15_law04_GroundData (p0:(List (Int×Int))) (p1:(List (Int×(Int×Int)))) := ((q1_law04_GroundData p0 p1)=(q1_law04_GroundData p0 p1))
abbrev q16_law04_GroundData (p0:(List (Int×Int))) (p1:(List (Int×(Int×Int)))) := ((q1_law04_GroundData p0 p1) && (v_rfr (v_rv (v_rat (v_misf0 p0 p1)))).2)
def w_law04_GroundData (p0:(List (Int×Int))) (p1:(List (Int×(Int×Int)))) (K:Bool→Prop):Prop :=
  ((((!(s_law04_awake))=true) →
 (K false)) ∧
 (((!(s_law04_awake))=false) →
 ((((!(decide ((List.length p0:Int)≤6)))=false) →
  ((!(decide ((List.length p0:Int)≤6)))=(!(decide ((List.length p0:Int)≤6))))) ∧
  ((((!(decide ((List.length p0:Int)≤6)))=false) →
  ((!(decide ((List.length p0:Int)≤6)))=(!(decide ((List.length p0:Int)≤6))))) ∧
  (((!(decide ((List.length p0:Int)≤6)))=(!(decide ((List.length p0:Int)≤6)))) ∧
  ((((cond (!(decide ((List.length p0:Int)≤6))) true (!(s_law04_fewData p1)))=true) →
  (K true)) ∧
  (((cond (!(decide ((List.length p0:Int)≤6))) true (!(s_law04_fewData p1)))=false) →
  (((((List.length ([]:List (Int×(Int×Int)))) + p1.length) * 24)≤140737488355328) ∧
   (((((List.length ([]:List (Int×Int))) + p0.length) * 16)≤140737488355328) ∧
   (((((List.length ([]:List (Int×(Int×Int)))) + p1.length) * 24)≤140737488355328) ∧
   (((((List.length ([]:List (Int×Int))) + p0.length) * 16)≤140737488355328) ∧
   (((((List.length ([]:List (Int×(Int×Int)))) + p1.length) * 24)≤140737488355328) ∧
   (((((v_cd (s_ref04_CopyData p1)).2 != (v_cd p1).2)=false) →
   (((v_cd (s_ref04_CopyData p1)).2 != (v_cd p1).2)=((v_cd (s_ref04_CopyData p1)).2 != (v_cd p1).2))) ∧
   (((((v_cd (s_ref04_CopyData p1)).2 != (v_cd p1).2)=false) →
   (((v_cd (s_ref04_CopyData p1)).2 != (v_cd p1).2)=((v_cd (s_ref04_CopyData p1)).2 != (v_cd p1).2))) ∧
   ((((v_cd (s_ref04_CopyData p1)).2 != (v_cd p1).2)=((v_cd (s_ref04_CopyData p1)).2 != (v_cd p1).2)) ∧
   ((((cond ((v_cd (s_ref04_CopyData p1)).2 != (v_cd p1).2) true ((v_cd (s_ref04_CopyData p1)).1 != (v_cd p1).1))=true) →
   (K false)) ∧
   (((cond ((v_cd (s_ref04_CopyData p1)).2 != (v_cd p1).2) true ((v_cd (s_ref04_CopyData p1)).1 != (v_cd p1).1))=false) →
   (((((v_cm p0).2 != zz0)=true) →
    (((((v_cm p0).2 != zz0)=true) →
     (((((q2_law04_GroundData p0 p1).2 == (v_cm p0).2)=true) →
      (((q2_law04_GroundData p0 p1).2 == (v_cm p0).2)=((q2_law04_GroundData p0 p1).2 == (v_cm p0).2))) ∧
      ((((q2_law04_GroundData p0 p1).2 == (v_cm p0).2)=((q2_law04_GroundData p0 p1).2 == (v_cm p0).2)) ∧
      ((((q10_law04_GroundData p0 p1)=true) →
      ((q10_law04_GroundData p0 p1)=(q10_law04_GroundData p0 p1))) ∧
      ((((q10_law04_GroundData p0 p1)=true) →
      ((q10_law04_GroundData p0 p1)=(q10_law04_GroundData p0 p1))) ∧
      (((q10_law04_GroundData p0 p1)=(q10_law04_GroundData p0 p1)) ∧
      ((((q5_law04_GroundData p0 p1)=true) →
      ((q5_law04_GroundData p0 p1)=(q5_law04_GroundData p0 p1))) ∧
      ((((q5_law04_GroundData p0 p1)=true) →
      ((q5_law04_GroundData p0 p1)=(q5_law04_GroundData p0 p1))) ∧
      (((q5_law04_GroundData p0 p1)=(q5_law04_GroundData p0 p1)) ∧
      (K (cond (q5_law04_GroundData p0 p1) (q9_law04_GroundData p0 p1) false))))))))))) ∧
     ((((v_cm p0).2 != zz0)=false) →
     ((v_mok p0) ∧
      ((v_dat p1) ∧
      ((v_rok (v_rat (v_misf0 p0 p1))) ∧
      (((((q2_law04_GroundData p0 p1).2 == zz0)=true) →
      (q8_law04_GroundData p0 p1)) ∧
      (((((q2_law04_GroundData p0 p1).2 == zz0)=true) →
      (q8_law04_GroundData p0 p1)) ∧
      (((((q2_law04_GroundData p0 p1).2 == zz0)=true) →
      (v_mok p0)) ∧
      (((((q2_law04_GroundData p0 p1).2 == zz0)=true) →
      (v_dat p1)) ∧
      (((((q2_law04_GroundData p0 p1).2 == zz0)=true) →
      (q8_law04_GroundData p0 p1)) ∧
      (((((q2_law04_GroundData p0 p1).2 == zz0)=true) →
      (q8_law04_GroundData p0 p1)) ∧
      ((q8_law04_GroundData p0 p1) ∧
      ((((q1_law04_GroundData p0 p1)=true) →
      (q15_law04_GroundData p0 p1)) ∧
      ((((q16_law04_GroundData p0 p1)=true) →
      ((q16_law04_GroundData p0 p1)=(q16_law04_GroundData p0 p1))) ∧
      ((((q1_law04_GroundData p0 p1)=true) →
      (q15_law04_GroundData p0 p1)) ∧
      ((((q1_law04_GroundData p0 p1)=true) →
      ((q16_law04_GroundData p0 p1)=(v_rfr (v_rv (v_rat (v_misf0 p0 p1)))).2)) ∧
      ((((q1_law04_GroundData p0 p1)=true) →
      (q15_law04_GroundData p0 p1)) ∧
      ((((q14_law04_GroundData p0 p1)=true) →
      ((q14_law04_GroundData p0 p1)=(q14_law04_GroundData p0 p1))) ∧
      ((((q14_law04_GroundData p0 p1)=true) →
      ((q14_law04_GroundData p0 p1)=(q14_law04_GroundData p0 p1))) ∧
      ((((q1_law04_GroundData p0 p1)=true) →
      (q15_law04_GroundData p0 p1)) ∧
      ((((q1_law04_GroundData p0 p1)=true) →
      ((q14_law04_GroundData p0 p1)=(q3_law04_GroundData p0 p1))) ∧
      ((((q1_law04_GroundData p0 p1)=true) →
      (q15_law04_GroundData p0 p1)) ∧
      ((((q0_law04_GroundData p0 p1)=false) →
      ((q0_law04_GroundData p0 p1)=(q0_law04_GroundData p0 p1))) ∧
      ((((q0_law04_GroundData p0 p1)=false) →
      ((q0_law04_GroundData p0 p1)=(q0_law04_GroundData p0 p1))) ∧
      ((((q13_law04_GroundData p0 p1)=true) →
      ((q13_law04_GroundData p0 p1)=(q13_law04_GroundData p0 p1))) ∧
      ((((q0_law04_GroundData p0 p1)=false) →
      ((q0_law04_GroundData p0 p1)=(q0_law04_GroundData p0 p1))) ∧
      ((((q0_law04_GroundData p0 p1)=false) →
      ((q13_law04_GroundData p0 p1)=(!(v_rfr (v_rv (v_rat (v_misf0 p0 p1)))).2))) ∧
      ((((q0_law04_GroundData p0 p1)=false) →
      ((q0_law04_GroundData p0 p1)=(q0_law04_GroundData p0 p1))) ∧
      ((((q4_law04_GroundData p0 p1)=true) →
      ((q4_law04_GroundData p0 p1)=(q4_law04_GroundData p0 p1))) ∧
      ((((q4_law04_GroundData p0 p1)=true) →
      ((q4_law04_GroundData p0 p1)=(q4_law04_GroundData p0 p1))) ∧
      ((((q0_law04_GroundData p0 p1)=false) →
      ((q0_law04_GroundData p0 p1)=(q0_law04_GroundData p0 p1))) ∧
      ((((q0_law04_GroundData p0 p1)=false) →
      ((q4_law04_GroundData p0 p1)=(q12_law04_GroundData p0 p1))) ∧
      ((((q1_law04_GroundData p0 p1)=true) →
      (q15_law04_GroundData p0 p1)) ∧
      ((((q1_law04_GroundData p0 p1)=true) →
      ((q0_law04_GroundData p0 p1)=(q7_law04_GroundData p0 p1))) ∧
      ((q15_law04_GroundData p0 p1) ∧
      (K (cond (q1_law04_GroundData p0 p1) (cond (q7_law04_GroundData p0 p1) true (cond (q12_law04_GroundData p0 p1) (q9_law04_GroundData p0 p1) false)) false)))))))))))))))))))))))))))))))))))))) ∧
    ((((v_cm p0).2 != zz0)=false) →
    (((((v_cd p1).2 != zz0)=true) →
     (((((q2_law04_GroundData p0 p1).2 == (v_cd p1).2)=true) →
      (((q2_law04_GroundData p0 p1).2 == (v_cd p1).2)=((q2_law04_GroundData p0 p1).2 == (v_cd p1).2))) ∧
      ((((q2_law04_GroundData p0 p1).2 == (v_cd p1).2)=((q2_law04_GroundData p0 p1).2 == (v_cd p1).2)) ∧
      ((((q11_law04_GroundData p0 p1)=true) →
      ((q11_law04_GroundData p0 p1)=(q11_law04_GroundData p0 p1))) ∧
      ((((q11_law04_GroundData p0 p1)=true) →
      ((q11_law04_GroundData p0 p1)=(q11_law04_GroundData p0 p1))) ∧
      (((q11_law04_GroundData p0 p1)=(q11_law04_GroundData p0 p1)) ∧
      ((((q6_law04_GroundData p0 p1)=true) →
      ((q6_law04_GroundData p0 p1)=(q6_law04_GroundData p0 p1))) ∧
      ((((q6_law04_GroundData p0 p1)=true) →
      ((q6_law04_GroundData p0 p1)=(q6_law04_GroundData p0 p1))) ∧
      (((q6_law04_GroundData p0 p1)=(q6_law04_GroundData p0 p1)) ∧
      (K (cond (q6_law04_GroundData p0 p1) (q9_law04_GroundData p0 p1) false))))))))))) ∧
     ((((v_cd p1).2 != zz0)=false) →
     ((v_mok p0) ∧
      ((v_dat p1) ∧
      ((v_rok (v_rat (v_misf0 p0 p1))) ∧
      (((((q2_law04_GroundData p0 p1).2 == zz0)=true) →
      (q8_law04_GroundData p0 p1)) ∧
      (((((q2_law04_GroundData p0 p1).2 == zz0)=true) →
      (q8_law04_GroundData p0 p1)) ∧
      (((((q2_law04_GroundData p0 p1).2 == zz0)=true) →
      (v_mok p0)) ∧
      (((((q2_law04_GroundData p0 p1).2 == zz0)=true) →
      (v_dat p1)) ∧
      (((((q2_law04_GroundData p0 p1).2 == zz0)=true) →
      (q8_law04_GroundData p0 p1)) ∧
      (((((q2_law04_GroundData p0 p1).2 == zz0)=true) →
      (q8_law04_GroundData p0 p1)) ∧
      ((q8_law04_GroundData p0 p1) ∧
      ((((q1_law04_GroundData p0 p1)=true) →
      (q15_law04_GroundData p0 p1)) ∧
      ((((q16_law04_GroundData p0 p1)=true) →
      ((q16_law04_GroundData p0 p1)=(q16_law04_GroundData p0 p1))) ∧
      ((((q1_law04_GroundData p0 p1)=true) →
      (q15_law04_GroundData p0 p1)) ∧
      ((((q1_law04_GroundData p0 p1)=true) →
      ((q16_law04_GroundData p0 p1)=(v_rfr (v_rv (v_rat (v_misf0 p0 p1)))).2)) ∧
      ((((q1_law04_GroundData p0 p1)=true) →
      (q15_law04_GroundData p0 p1)) ∧
      ((((q14_law04_GroundData p0 p1)=true) →
      ((q14_law04_GroundData p0 p1)=(q14_law04_GroundData p0 p1))) ∧
      ((((q14_law04_GroundData p0 p1)=true) →
      ((q14_law04_GroundData p0 p1)=(q14_law04_GroundData p0 p1))) ∧
      ((((q1_law04_GroundData p0 p1)=true) →
      (q15_law04_GroundData p0 p1)) ∧
      ((((q1_law04_GroundData p0 p1)=true) →
      ((q14_law04_GroundData p0 p1)=(q3_law04_GroundData p0 p1))) ∧
      ((((q1_law04_GroundData p0 p1)=true) →
      (q15_law04_GroundData p0 p1)) ∧
      ((((q0_law04_GroundData p0 p1)=false) →
      ((q0_law04_GroundData p0 p1)=(q0_law04_GroundData p0 p1))) ∧
      ((((q0_law04_GroundData p0 p1)=false) →
      ((q0_law04_GroundData p0 p1)=(q0_law04_GroundData p0 p1))) ∧
      ((((q13_law04_GroundData p0 p1)=true) →
      ((q13_law04_GroundData p0 p1)=(q13_law04_GroundData p0 p1))) ∧
      ((((q0_law04_GroundData p0 p1)=false) →
      ((q0_law04_GroundData p0 p1)=(q0_law04_GroundData p0 p1))) ∧
      ((((q0_law04_GroundData p0 p1)=false) →
      ((q13_law04_GroundData p0 p1)=(!(v_rfr (v_rv (v_rat (v_misf0 p0 p1)))).2))) ∧
      ((((q0_law04_GroundData p0 p1)=false) →
      ((q0_law04_GroundData p0 p1)=(q0_law04_GroundData p0 p1))) ∧
      ((((q4_law04_GroundData p0 p1)=true) →
      ((q4_law04_GroundData p0 p1)=(q4_law04_GroundData p0 p1))) ∧
      ((((q4_law04_GroundData p0 p1)=true) →
      ((q4_law04_GroundData p0 p1)=(q4_law04_GroundData p0 p1))) ∧
      ((((q0_law04_GroundData p0 p1)=false) →
      ((q0_law04_GroundData p0 p1)=(q0_law04_GroundData p0 p1))) ∧
      ((((q0_law04_GroundData p0 p1)=false) →
      ((q4_law04_GroundData p0 p1)=(q12_law04_GroundData p0 p1))) ∧
      ((((q1_law04_GroundData p0 p1)=true) →
      (q15_law04_GroundData p0 p1)) ∧
      ((((q1_law04_GroundData p0 p1)=true) →
      ((q0_law04_GroundData p0 p1)=(q7_law04_GroundData p0 p1))) ∧
      ((q15_law04_GroundData p0 p1) ∧
      (K (cond (q1_law04_GroundData p0 p1) (cond (q7_law04_GroundData p0 p1) true (cond (q12_law04_GroundData p0 p1) (q9_law04_GroundData p0 p1) false)) false))))))))))))))))))))))))))))))))))))))))))))))))))))))))
set_option maxHeartbeats 4000000 in
theorem w_law04_GroundData_eq (p0:(List (Int×Int))) (p1:(List (Int×(Int×Int)))) (K:Bool→Prop):tfn F_law04_GroundData A_law04_GroundData C_law04_GroundData P_law04_GroundData R_law04_GroundData (p0,p1) K = w_law04_GroundData p0 p1 K := by kernel_rfl
def s_law04_GroundData (p0:(List (Int×Int))) (p1:(List (Int×(Int×Int)))):Bool :=
 (cond (cond (!(decide ((List.length p0:Int)≤6))) true (!(s_law04_fewData p1))) true
  (cond (cond ((v_cd (s_ref04_CopyData p1)).2 != (v_cd p1).2) true ((v_cd (s_ref04_CopyData p1)).1 != (v_cd p1).1)) false
  (cond ((v_cm p0).2 != 0) (cond (cond (cond ((v_expls (([]:List (Int×Int)) ++ p0) (s_ref04_CopyData p1)).2 == (v_cm p0).2) (!(v_expls (([]:List (Int×Int)) ++ p0) (s_ref04_CopyData p1)).1) false) ((v_mof (([]:List (Int×Int)) ++ p0) (s_ref04_CopyData p1)).2 == (v_cm p0).2) false) (((v_mof (([]:List (Int×Int)) ++ p0) (s_ref04_CopyData p1)).1.1 == 0) && (((v_mof (([]:List (Int×Int)) ++ p0) (s_ref04_CopyData p1)).1.2 == 0) && true)) false)
  (cond ((v_cd p1).2 != 0) (cond (cond (cond ((v_expls (([]:List (Int×Int)) ++ p0) (s_ref04_CopyData p1)).2 == (v_cd p1).2) (!(v_expls (([]:List (Int×Int)) ++ p0) (s_ref04_CopyData p1)).1) false) ((v_mof (([]:List (Int×Int)) ++ p0) (s_ref04_CopyData p1)).2 == (v_cd p1).2) false) (((v_mof (([]:List (Int×Int)) ++ p0) (s_ref04_CopyData p1)).1.1 == 0) && (((v_mof (([]:List (Int×Int)) ++ p0) (s_ref04_CopyData p1)).1.2 == 0) && true)) false)
  (cond (cond ((v_expls (([]:List (Int×Int)) ++ p0) (s_ref04_CopyData p1)).2 == 0) ((v_expls (([]:List (Int×Int)) ++ p0) (s_ref04_CopyData p1)).1 == (v_rexpl p0 p1)) false) (cond (cond (cond (v_rfr (v_rv (v_rat (v_misf0 p0 p1)))).2 ((v_mof (([]:List (Int×Int)) ++ p0) (s_ref04_CopyData p1)).2 == 0) false) (((v_mof (([]:List (Int×Int)) ++ p0) (s_ref04_CopyData p1)).1.1 == (v_rfr (v_rv (v_rat (v_misf0 p0 p1)))).1.1) && (((v_mof (([]:List (Int×Int)) ++ p0) (s_ref04_CopyData p1)).1.2 == (v_rfr (v_rv (v_rat (v_misf0 p0 p1)))).1.2) && true)) false) true (cond (cond (!(v_rfr (v_rv (v_rat (v_misf0 p0 p1)))).2) ((v_mof (([]:List (Int×Int)) ++ p0) (s_ref04_CopyData p1)).2 == 8) false) (((v_mof (([]:List (Int×Int)) ++ p0) (s_ref04_CopyData p1)).1.1 == 0) && (((v_mof (([]:List (Int×Int)) ++ p0) (s_ref04_CopyData p1)).1.2 == 0) && true)) false)) false)))))
abbrev pre_law04_GroundData (p0:(List (Int×Int))) (p1:(List (Int×(Int×Int)))):List Prop := [(((cond (!(decide ((List.length p0:Int)≤6))) true (!(s_law04_fewData p1)))=false)→((((List.length ([]:List (Int×(Int×Int)))) + p1.length) * 24)≤140737488355328)),
  (((cond (!(decide ((List.length p0:Int)≤6))) true (!(s_law04_fewData p1)))=false)→((((List.length ([]:List (Int×Int))) + p0.length) * 16)≤140737488355328)),
  (((cond (!(decide ((List.length p0:Int)≤6))) true (!(s_law04_fewData p1)))=false)→(((cond ((v_cd (s_ref04_CopyData p1)).2 != (v_cd p1).2) true ((v_cd (s_ref04_CopyData p1)).1 != (v_cd p1).1))=false)→((((v_cm p0).2 != 0)=false)→((((v_cd p1).2 != 0)=false)→(v_mok p0))))),
  (((cond (!(decide ((List.length p0:Int)≤6))) true (!(s_law04_fewData p1)))=false)→(((cond ((v_cd (s_ref04_CopyData p1)).2 != (v_cd p1).2) true ((v_cd (s_ref04_CopyData p1)).1 != (v_cd p1).1))=false)→((((v_cm p0).2 != 0)=false)→((((v_cd p1).2 != 0)=false)→(v_dat p1))))),
  (((cond (!(decide ((List.length p0:Int)≤6))) true (!(s_law04_fewData p1)))=false)→(((cond ((v_cd (s_ref04_CopyData p1)).2 != (v_cd p1).2) true ((v_cd (s_ref04_CopyData p1)).1 != (v_cd p1).1))=false)→((((v_cm p0).2 != 0)=false)→((((v_cd p1).2 != 0)=false)→(v_rok (v_rat (v_misf0 p0 p1))))))),
  (((cond (!(decide ((List.length p0:Int)≤6))) true (!(s_law04_fewData p1)))=false)→(((cond ((v_cd (s_ref04_CopyData p1)).2 != (v_cd p1).2) true ((v_cd (s_ref04_CopyData p1)).1 != (v_cd p1).1))=false)→((((v_cm p0).2 != 0)=false)→((((v_cd p1).2 != 0)=false)→((((v_expls (([]:List (Int×Int)) ++ p0) (s_ref04_CopyData p1)).2 == 0)=true)→(v_mok p0)))))),
  (((cond (!(decide ((List.length p0:Int)≤6))) true (!(s_law04_fewData p1)))=false)→(((cond ((v_cd (s_ref04_CopyData p1)).2 != (v_cd p1).2) true ((v_cd (s_ref04_CopyData p1)).1 != (v_cd p1).1))=false)→((((v_cm p0).2 != 0)=false)→((((v_cd p1).2 != 0)=false)→((((v_expls (([]:List (Int×Int)) ++ p0) (s_ref04_CopyData p1)).2 == 0)=true)→(v_dat p1)))))),
  (((cond (!(decide ((List.length p0:Int)≤6))) true (!(s_law04_fewData p1)))=false)→(((cond ((v_cd (s_ref04_CopyData p1)).2 != (v_cd p1).2) true ((v_cd (s_ref04_CopyData p1)).1 != (v_cd p1).1))=false)→((((v_cm p0).2 != 0)=false)→((((v_cd p1).2 != 0)=false)→(((cond ((v_expls (([]:List (Int×Int)) ++ p0) (s_ref04_CopyData p1)).2 == 0) ((v_expls (([]:List (Int×Int)) ++ p0) (s_ref04_CopyData p1)).1 == (v_rexpl p0 p1)) false)=true)→(((cond ((v_expls (([]:List (Int×Int)) ++ p0) (s_ref04_CopyData p1)).2 == 0) ((v_expls (([]:List (Int×Int)) ++ p0) (s_ref04_CopyData p1)).1 == (v_rexpl p0 p1)) false) && (v_rfr (v_rv (v_rat (v_misf0 p0 p1)))).2)=(v_rfr (v_rv (v_rat (v_misf0 p0 p1)))).2)))))),
  (((cond (!(decide ((List.length p0:Int)≤6))) true (!(s_law04_fewData p1)))=false)→(((cond ((v_cd (s_ref04_CopyData p1)).2 != (v_cd p1).2) true ((v_cd (s_ref04_CopyData p1)).1 != (v_cd p1).1))=false)→((((v_cm p0).2 != 0)=false)→((((v_cd p1).2 != 0)=false)→(((cond ((v_expls (([]:List (Int×Int)) ++ p0) (s_ref04_CopyData p1)).2 == 0) ((v_expls (([]:List (Int×Int)) ++ p0) (s_ref04_CopyData p1)).1 == (v_rexpl p0 p1)) false)=true)→(((cond ((v_expls (([]:List (Int×Int)) ++ p0) (s_ref04_CopyData p1)).2 == 0) ((v_expls (([]:List (Int×Int)) ++ p0) (s_ref04_CopyData p1)).1 == (v_rexpl p0 p1)) false) && (cond (v_rfr (v_rv (v_rat (v_misf0 p0 p1)))).2 ((v_mof (([]:List (Int×Int)) ++ p0) (s_ref04_CopyData p1)).2 == 0) false))=(cond (v_rfr (v_rv (v_rat (v_misf0 p0 p1)))).2 ((v_mof (([]:List (Int×Int)) ++ p0) (s_ref04_CopyData p1)).2 == 0) false))))))),
  (((cond (!(decide ((List.length p0:Int)≤6))) true (!(s_law04_fewData p1)))=false)→(((cond ((v_cd (s_ref04_CopyData p1)).2 != (v_cd p1).2) true ((v_cd (s_ref04_CopyData p1)).1 != (v_cd p1).1))=false)→((((v_cm p0).2 != 0)=false)→((((v_cd p1).2 != 0)=false)→((((!(cond ((v_expls (([]:List (Int×Int)) ++ p0) (s_ref04_CopyData p1)).2 == 0) ((v_expls (([]:List (Int×Int)) ++ p0) (s_ref04_CopyData p1)).1 == (v_rexpl p0 p1)) false)) || (cond (cond (v_rfr (v_rv (v_rat (v_misf0 p0 p1)))).2 ((v_mof (([]:List (Int×Int)) ++ p0) (s_ref04_CopyData p1)).2 == 0) false) (((v_mof (([]:List (Int×Int)) ++ p0) (s_ref04_CopyData p1)).1.1 == (v_rfr (v_rv (v_rat (v_misf0 p0 p1)))).1.1) && (((v_mof (([]:List (Int×Int)) ++ p0) (s_ref04_CopyData p1)).1.2 == (v_rfr (v_rv (v_rat (v_misf0 p0 p1)))).1.2) && true)) false))=false)→(((!((!(cond ((v_expls (([]:List (Int×Int)) ++ p0) (s_ref04_CopyData p1)).2 == 0) ((v_expls (([]:List (Int×Int)) ++ p0) (s_ref04_CopyData p1)).1 == (v_rexpl p0 p1)) false)) || (cond (cond (v_rfr (v_rv (v_rat (v_misf0 p0 p1)))).2 ((v_mof (([]:List (Int×Int)) ++ p0) (s_ref04_CopyData p1)).2 == 0) false) (((v_mof (([]:List (Int×Int)) ++ p0) (s_ref04_CopyData p1)).1.1 == (v_rfr (v_rv (v_rat (v_misf0 p0 p1)))).1.1) && (((v_mof (([]:List (Int×Int)) ++ p0) (s_ref04_CopyData p1)).1.2 == (v_rfr (v_rv (v_rat (v_misf0 p0 p1)))).1.2) && true)) false))) && (!(v_rfr (v_rv (v_rat (v_misf0 p0 p1)))).2))=(!(v_rfr (v_rv (v_rat (v_misf0 p0 p1)))).2))))))),
  (((cond (!(decide ((List.length p0:Int)≤6))) true (!(s_law04_fewData p1)))=false)→(((cond ((v_cd (s_ref04_CopyData p1)).2 != (v_cd p1).2) true ((v_cd (s_ref04_CopyData p1)).1 != (v_cd p1).1))=false)→((((v_cm p0).2 != 0)=false)→((((v_cd p1).2 != 0)=false)→((((!(cond ((v_expls (([]:List (Int×Int)) ++ p0) (s_ref04_CopyData p1)).2 == 0) ((v_expls (([]:List (Int×Int)) ++ p0) (s_ref04_CopyData p1)).1 == (v_rexpl p0 p1)) false)) || (cond (cond (v_rfr (v_rv (v_rat (v_misf0 p0 p1)))).2 ((v_mof (([]:List (Int×Int)) ++ p0) (s_ref04_CopyData p1)).2 == 0) false) (((v_mof (([]:List (Int×Int)) ++ p0) (s_ref04_CopyData p1)).1.1 == (v_rfr (v_rv (v_rat (v_misf0 p0 p1)))).1.1) && (((v_mof (([]:List (Int×Int)) ++ p0) (s_ref04_CopyData p1)).1.2 == (v_rfr (v_rv (v_rat (v_misf0 p0 p1)))).1.2) && true)) false))=false)→(((!((!(cond ((v_expls (([]:List (Int×Int)) ++ p0) (s_ref04_CopyData p1)).2 == 0) ((v_expls (([]:List (Int×Int)) ++ p0) (s_ref04_CopyData p1)).1 == (v_rexpl p0 p1)) false)) || (cond (cond (v_rfr (v_rv (v_rat (v_misf0 p0 p1)))).2 ((v_mof (([]:List (Int×Int)) ++ p0) (s_ref04_CopyData p1)).2 == 0) false) (((v_mof (([]:List (Int×Int)) ++ p0) (s_ref04_CopyData p1)).1.1 == (v_rfr (v_rv (v_rat (v_misf0 p0 p1)))).1.1) && (((v_mof (([]:List (Int×Int)) ++ p0) (s_ref04_CopyData p1)).1.2 == (v_rfr (v_rv (v_rat (v_misf0 p0 p1)))).1.2) && true)) false))) && (cond (!(v_rfr (v_rv (v_rat (v_misf0 p0 p1)))).2) ((v_mof (([]:List (Int×Int)) ++ p0) (s_ref04_CopyData p1)).2 == 8) false))=(cond (!(v_rfr (v_rv (v_rat (v_misf0 p0 p1)))).2) ((v_mof (([]:List (Int×Int)) ++ p0) (s_ref04_CopyData p1)).2 == 8) false))))))),
  (((cond (!(decide ((List.length p0:Int)≤6))) true (!(s_law04_fewData p1)))=false)→(((cond ((v_cd (s_ref04_CopyData p1)).2 != (v_cd p1).2) true ((v_cd (s_ref04_CopyData p1)).1 != (v_cd p1).1))=false)→((((v_cm p0).2 != 0)=false)→((((v_cd p1).2 != 0)=false)→(((cond ((v_expls (([]:List (Int×Int)) ++ p0) (s_ref04_CopyData p1)).2 == 0) ((v_expls (([]:List (Int×Int)) ++ p0) (s_ref04_CopyData p1)).1 == (v_rexpl p0 p1)) false)=true)→(((!(cond ((v_expls (([]:List (Int×Int)) ++ p0) (s_ref04_CopyData p1)).2 == 0) ((v_expls (([]:List (Int×Int)) ++ p0) (s_ref04_CopyData p1)).1 == (v_rexpl p0 p1)) false)) || (cond (cond (v_rfr (v_rv (v_rat (v_misf0 p0 p1)))).2 ((v_mof (([]:List (Int×Int)) ++ p0) (s_ref04_CopyData p1)).2 == 0) false) (((v_mof (([]:List (Int×Int)) ++ p0) (s_ref04_CopyData p1)).1.1 == (v_rfr (v_rv (v_rat (v_misf0 p0 p1)))).1.1) && (((v_mof (([]:List (Int×Int)) ++ p0) (s_ref04_CopyData p1)).1.2 == (v_rfr (v_rv (v_rat (v_misf0 p0 p1)))).1.2) && true)) false))=(cond (cond (v_rfr (v_rv (v_rat (v_misf0 p0 p1)))).2 ((v_mof (([]:List (Int×Int)) ++ p0) (s_ref04_CopyData p1)).2 == 0) false) (((v_mof (([]:List (Int×Int)) ++ p0) (s_ref04_CopyData p1)).1.1 == (v_rfr (v_rv (v_rat (v_misf0 p0 p1)))).1.1) && (((v_mof (([]:List (Int×Int)) ++ p0) (s_ref04_CopyData p1)).1.2 == (v_rfr (v_rv (v_rat (v_misf0 p0 p1)))).1.2) && true)) false)))))))]
set_option maxHeartbeats 4000000 in
theorem d_law04_GroundData (p0:(List (Int×Int))) (p1:(List (Int×(Int×Int)))) (K:Bool→Prop) (hp:∀ p∈pre_law04_GroundData p0 p1,p) (h:K (s_law04_GroundData p0 p1)):w_law04_GroundData p0 p1 K := by
 unfold w_law04_GroundData
 unfold s_law04_GroundData at h
 obtain ⟨hp0,hp1,hp2,hp3,hp4,hp5,hp6,hp7,hp8,hp9,hp10,hp11,_⟩ := conj_of hp
 exact ⟨nof,fun _ => ⟨rf,rf,rfl,(br' h (fun e0 h => h)
  (fun e0 h => ⟨(hp0 e0),(hp1 e0),(hp0 e0),(hp1 e0),(hp0 e0),rf,rf,rfl,(br' h (fun e1 h => h)
  (fun e1 h => (br' h (fun e2 h => (And.intro (fun _ => ⟨rf,rfl,rf,rf,rfl,rf,rf,rfl,h⟩) (fun hc => Bool.noConfusion (e2.symm.trans hc))))
  (fun e2 h => (br' h (fun e4 h => ⟨rf,rfl,rf,rf,rfl,rf,rf,rfl,h⟩)
  (fun e4 h => ⟨(hp2 e0 e1 e2 e4),(hp3 e0 e1 e2 e4),(hp4 e0 e1 e2 e4),rf,rf,(hp5 e0 e1 e2 e4),(hp6 e0 e1 e2 e4),rf,rf,rfl,rf,rf,rf,(hp7 e0 e1 e2 e4),rf,rf,rf,rf,(hp8 e0 e1 e2 e4),rf,rf,rf,rf,rf,(hp9 e0 e1 e2 e4),rf,rf,rf,rf,(hp10 e0 e1 e2 e4),rf,(hp11 e0 e1 e2 e4),rfl,h⟩))))))⟩))⟩⟩
abbrev con_law04_GroundData:Con := ⟨P_law04_GroundData,R_law04_GroundData,fun x => pre_law04_GroundData x.1 x.2,fun x => s_law04_GroundData x.1 x.2⟩
theorem ok_law04_GroundData:ConOk Try.prog 9 con_law04_GroundData := ⟨k_law04_GroundData,fun x hx => ret_tf (ps := P_law04_GroundData) (rs := R_law04_GroundData) (x := x) (y := s_law04_GroundData x.1 x.2) e_law04_GroundData hC_law04_GroundData (tf_of (w_law04_GroundData_eq x.1 x.2 (fun z => z = s_law04_GroundData x.1 x.2)) (d_law04_GroundData x.1 x.2 (fun z => z = s_law04_GroundData x.1 x.2) hx rfl))⟩
end Go.Proofs.Ytehblgccaiiikaa
