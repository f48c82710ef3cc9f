/- What the functions that GroundClasses reaches compute: contracts, each function once. No condition. -/
import Derived.Test.YtehblgccaiiikaaWalkGroundClassesB
import Derived.KernelRfl
namespace Go.Proofs.Ytehblgccaiiikaa
open Go Go.Mx
set_option maxRecDepth 100000
/- ref04_CopyModel -/
def C_ref04_CopyModel:Cons := []
theorem hC_ref04_CopyModel:ConsOk Try.prog C_ref04_CopyModel := ConsOk.nil
def w_ref04_CopyModel (p0:(List (Int×Int))) (K:(List (Int×Int))→Prop):Prop :=
  (((((List.length ([]:List (Int×Int))) + p0.length) * 16)≤140737488355328) ∧
 (K (([]:List (Int×Int)) ++ p0)))
set_option maxHeartbeats 4000000 in
theorem w_ref04_CopyModel_eq (p0:(List (Int×Int))) (K:(List (Int×Int))→Prop):tfnA F_ref04_CopyModel A_ref04_CopyModel C_ref04_CopyModel P_ref04_CopyModel E_ref04_CopyModel p0 K = w_ref04_CopyModel p0 K := by kernel_rfl
def s_ref04_CopyModel (p0:(List (Int×Int))):(List (Int×Int)) :=
 (([]:List (Int×Int)) ++ p0)
abbrev pre_ref04_CopyModel (p0:(List (Int×Int))):List Prop := [((((List.length ([]:List (Int×Int))) + p0.length) * 16)≤140737488355328)]
set_option maxHeartbeats 4000000 in
theorem d_ref04_CopyModel (p0:(List (Int×Int))) (K:(List (Int×Int))→Prop) (hp:∀ p∈pre_ref04_CopyModel p0,p) (h:K (s_ref04_CopyModel p0)):w_ref04_CopyModel p0 K := by
 unfold w_ref04_CopyModel
 unfold s_ref04_CopyModel at h
 obtain ⟨hp0,_⟩ := conj_of hp
 exact ⟨(hp0),h⟩
abbrev con_ref04_CopyModel:Con := ⟨P_ref04_CopyModel,[.agg (.sl E_ref04_CopyModel)],fun x => pre_ref04_CopyModel x,fun x => s_ref04_CopyModel x⟩
theorem ok_ref04_CopyModel:ConOOk Try.prog 15 con_ref04_CopyModel := conA_tf (e := E_ref04_CopyModel) (ps := P_ref04_CopyModel) k_ref04_CopyModel e_ref04_CopyModel hC_ref04_CopyModel (fun x hx => tfa_of (w_ref04_CopyModel_eq x (fun z => z = s_ref04_CopyModel x)) (d_ref04_CopyModel x (fun z => z = s_ref04_CopyModel x) hx rfl))
/- ref04_choiceErr -/
def C_ref04_choiceErr:Cons := [(81,[],con_ref04_isConductivity),(82,[],con_ref04_isThickness)]
theorem hC_ref04_choiceErr:ConsOk Try.prog C_ref04_choiceErr := ConsOk.cons ok_ref04_isConductivity <| ConsOk.cons ok_ref04_isThickness <| ConsOk.nil
abbrev q0_ref04_choiceErr (p0:(List Int)) (p1:Bool) (y1:Int) := (cond p1 (!(s_base_Within (p0.getD y1.toNat zz0) zz1 (20:Int))) false)
def w_ref04_choiceErr (p0:(List Int)) (p1:Bool) (K:Int→Prop):Prop :=
  (∃ n0,(loopP (fun (y1:Int) k2 =>
  ((((decide (y1 < (p0.length:Int)))=true) →
  (((p1 = true) →
   (p1 = p1)) ∧
   (((p1 = true) →
   (p1 = p1)) ∧
   (((p1 = true) →
   (zz0≤y1)) ∧
   (((p1 = true) →
   (y1 < (p0.length:Int))) ∧
   (((p1 = true) →
   (p1 = p1)) ∧
   (((p1 = true) →
   (p1 = p1)) ∧
   (((p1 = true) →
   (p1 = p1)) ∧
   ((p1 = p1) ∧
   ((((q0_ref04_choiceErr p0 p1 y1)=false) →
   ((q0_ref04_choiceErr p0 p1 y1)=(q0_ref04_choiceErr p0 p1 y1))) ∧
   ((((q0_ref04_choiceErr p0 p1 y1)=false) →
   ((q0_ref04_choiceErr p0 p1 y1)=(q0_ref04_choiceErr p0 p1 y1))) ∧
   (((((!(q0_ref04_choiceErr p0 p1 y1)) && (!p1))=true) →
   (((!(q0_ref04_choiceErr p0 p1 y1)) && (!p1))=((!(q0_ref04_choiceErr p0 p1 y1)) && (!p1)))) ∧
   (((((!(q0_ref04_choiceErr p0 p1 y1)) && (!p1))=true) →
   (((!(q0_ref04_choiceErr p0 p1 y1)) && (!p1))=((!(q0_ref04_choiceErr p0 p1 y1)) && (!p1)))) ∧
   (((((!(q0_ref04_choiceErr p0 p1 y1)) && (!p1))=true) →
   (zz0≤y1)) ∧
   (((((!(q0_ref04_choiceErr p0 p1 y1)) && (!p1))=true) →
   (y1 < (p0.length:Int))) ∧
   (((((!(q0_ref04_choiceErr p0 p1 y1)) && (!p1))=true) →
   (((!(q0_ref04_choiceErr p0 p1 y1)) && (!p1))=((!(q0_ref04_choiceErr p0 p1 y1)) && (!p1)))) ∧
   (((((!(q0_ref04_choiceErr p0 p1 y1)) && (!p1))=true) →
   (((!(q0_ref04_choiceErr p0 p1 y1)) && (!p1))=((!(q0_ref04_choiceErr p0 p1 y1)) && (!p1)))) ∧
   (((((!(q0_ref04_choiceErr p0 p1 y1)) && (!p1))=true) →
   (((!(q0_ref04_choiceErr p0 p1 y1)) && (!p1))=((!(q0_ref04_choiceErr p0 p1 y1)) && (!p1)))) ∧
   ((((q0_ref04_choiceErr p0 p1 y1)=false) →
   ((q0_ref04_choiceErr p0 p1 y1)=(q0_ref04_choiceErr p0 p1 y1))) ∧
   ((((q0_ref04_choiceErr p0 p1 y1)=false) →
   (((!(q0_ref04_choiceErr p0 p1 y1)) && (!p1))=(!p1))) ∧
   (((q0_ref04_choiceErr p0 p1 y1)=(q0_ref04_choiceErr p0 p1 y1)) ∧
   ((((cond (q0_ref04_choiceErr p0 p1 y1) true (cond (!p1) (!(s_base_Within (p0.getD y1.toNat zz0) zz0 (10:Int))) false))=true) →
   (K zz2)) ∧
   (((cond (q0_ref04_choiceErr p0 p1 y1) true (cond (!p1) (!(s_base_Within (p0.getD y1.toNat zz0) zz0 (10:Int))) false))=false) →
   ((((decide (y1 > zz0))=true) →
    ((decide (y1 > zz0))=(decide (y1 > zz0)))) ∧
    ((((decide (y1 > zz0))=true) →
    ((decide (y1 > zz0))=(decide (y1 > zz0)))) ∧
    ((((decide (y1 > zz0))=true) →
    (zz0≤y1)) ∧
    ((((decide (y1 > zz0))=true) →
    (y1 < (p0.length:Int))) ∧
    ((((decide (y1 > zz0))=true) →
    ((decide (y1 > zz0))=(decide (y1 > zz0)))) ∧
    ((((decide (y1 > zz0))=true) →
    ((decide (y1 > zz0))=(decide (y1 > zz0)))) ∧
    ((((decide (y1 > zz0))=true) →
    ((decide (y1 > zz0))=(decide (y1 > zz0)))) ∧
    ((((decide (y1 > zz0))=true) →
    ((decide (y1 > zz0))=(decide (y1 > zz0)))) ∧
    ((((decide (y1 > zz0))=true) →
    (zz0≤(wi (y1 - zz1)))) ∧
    ((((decide (y1 > zz0))=true) →
    ((wi (y1 - zz1)) < (p0.length:Int))) ∧
    ((((decide (y1 > zz0))=true) →
    ((decide (y1 > zz0))=(decide (y1 > zz0)))) ∧
    ((((decide (y1 > zz0))=true) →
    ((decide (y1 > zz0))=(decide (y1 > zz0)))) ∧
    ((((decide (y1 > zz0))=true) →
    ((decide (y1 > zz0))=(decide (y1 > zz0)))) ∧
    (((decide (y1 > zz0))=(decide (y1 > zz0))) ∧
    ((((cond (decide (y1 > zz0)) (decide ((p0.getD y1.toNat zz0)≤(p0.getD (Int.toNat (wi (y1 - zz1))) zz0))) false)=true) →
    (K (9:Int))) ∧
    (((cond (decide (y1 > zz0)) (decide ((p0.getD y1.toNat zz0)≤(p0.getD (Int.toNat (wi (y1 - zz1))) zz0))) false)=false) →
    (k2 (wi (y1 + zz1)))))))))))))))))))))))))))))))))))))))))) ∧
  (((decide (y1 < (p0.length:Int)))=false) →
  (K zz0)))) n0 zz0))
set_option maxHeartbeats 4000000 in
theorem w_ref04_choiceErr_eq (p0:(List Int)) (p1:Bool) (K:Int→Prop):tfn F_ref04_choiceErr A_ref04_choiceErr C_ref04_choiceErr P_ref04_choiceErr R_ref04_choiceErr (p0,p1) K = w_ref04_choiceErr p0 p1 K := by kernel_rfl
def st_ref04_choiceErr_0 (p0:(List Int)) (p1:Bool) (y0:Int):Int ⊕ Int :=
 (cond (decide (y0 < (p0.length:Int))) (cond (cond (cond p1 (!(s_base_Within (p0.getD y0.toNat (0:Int)) (1:Int) (20:Int))) false) true (cond (!p1) (!(s_base_Within (p0.getD y0.toNat (0:Int)) (0:Int) (10:Int))) false)) (Sum.inr (2:Int))
  (cond (cond (decide (y0 > 0)) (decide ((p0.getD y0.toNat (0:Int))≤(p0.getD (Int.toNat (IntKind.i64.wrap (y0 - 1))) (0:Int)))) false) (Sum.inr (9:Int))
  (Sum.inl (IntKind.i64.wrap (y0 + 1)))))
  (Sum.inr (0:Int)))
abbrev sp_ref04_choiceErr_0 (p0:(List Int)) (p1:Bool) (y0:Int):List Prop := [(((decide (y0 < (p0.length:Int)))=true)→((p1 = true)→((0:Int)≤y0))),
  (((decide (y0 < (p0.length:Int)))=true)→((p1 = true)→(y0 < (p0.length:Int)))),
  (((decide (y0 < (p0.length:Int)))=true)→((((!(cond p1 (!(s_base_Within (p0.getD y0.toNat (0:Int)) (1:Int) (20:Int))) false)) && (!p1))=true)→((0:Int)≤y0))),
  (((decide (y0 < (p0.length:Int)))=true)→((((!(cond p1 (!(s_base_Within (p0.getD y0.toNat (0:Int)) (1:Int) (20:Int))) false)) && (!p1))=true)→(y0 < (p0.length:Int)))),
  (((decide (y0 < (p0.length:Int)))=true)→(((cond p1 (!(s_base_Within (p0.getD y0.toNat (0:Int)) (1:Int) (20:Int))) false)=false)→(((!(cond p1 (!(s_base_Within (p0.getD y0.toNat (0:Int)) (1:Int) (20:Int))) false)) && (!p1))=(!p1)))),
  (((decide (y0 < (p0.length:Int)))=true)→(((cond (cond p1 (!(s_base_Within (p0.getD y0.toNat (0:Int)) (1:Int) (20:Int))) false) true (cond (!p1) (!(s_base_Within (p0.getD y0.toNat (0:Int)) (0:Int) (10:Int))) false))=false)→(((decide (y0 > 0))=true)→((0:Int)≤y0)))),
  (((decide (y0 < (p0.length:Int)))=true)→(((cond (cond p1 (!(s_base_Within (p0.getD y0.toNat (0:Int)) (1:Int) (20:Int))) false) true (cond (!p1) (!(s_base_Within (p0.getD y0.toNat (0:Int)) (0:Int) (10:Int))) false))=false)→(((decide (y0 > 0))=true)→(y0 < (p0.length:Int))))),
  (((decide (y0 < (p0.length:Int)))=true)→(((cond (cond p1 (!(s_base_Within (p0.getD y0.toNat (0:Int)) (1:Int) (20:Int))) false) true (cond (!p1) (!(s_base_Within (p0.getD y0.toNat (0:Int)) (0:Int) (10:Int))) false))=false)→(((decide (y0 > 0))=true)→((0:Int)≤(IntKind.i64.wrap (y0 - 1)))))),
  (((decide (y0 < (p0.length:Int)))=true)→(((cond (cond p1 (!(s_base_Within (p0.getD y0.toNat (0:Int)) (1:Int) (20:Int))) false) true (cond (!p1) (!(s_base_Within (p0.getD y0.toNat (0:Int)) (0:Int) (10:Int))) false))=false)→(((decide (y0 > 0))=true)→((IntKind.i64.wrap (y0 - 1)) < (p0.length:Int)))))]
def s_ref04_choiceErr (p0:(List Int)) (p1:Bool):Int :=
 (lpv (0:Int) (st_ref04_choiceErr_0 p0 p1) (0:Int))
abbrev pre_ref04_choiceErr (p0:(List Int)) (p1:Bool):List Prop := [(OkL (st_ref04_choiceErr_0 p0 p1) (sp_ref04_choiceErr_0 p0 p1) (0:Int))]
set_option maxHeartbeats 4000000 in
theorem d_ref04_choiceErr (p0:(List Int)) (p1:Bool) (K:Int→Prop) (hp:∀ p∈pre_ref04_choiceErr p0 p1,p) (h:K (s_ref04_choiceErr p0 p1)):w_ref04_choiceErr p0 p1 K := by
 unfold w_ref04_choiceErr
 unfold s_ref04_choiceErr at h
 obtain ⟨hp0,_⟩ := conj_of hp
 exact (loop_gen (hp0) h (fun y0 k0 hp h => by
 unfold st_ref04_choiceErr_0 at h; obtain ⟨hp0,hp1,hp2,hp3,hp4,hp5,hp6,hp7,hp8,_⟩ := conj_of hp
 exact (br' h (fun e1 h => ⟨rf,rf,(hp0 e1),(hp1 e1),rf,rf,rf,rfl,rf,rf,rf,rf,(hp2 e1),(hp3 e1),rf,rf,rf,rf,(hp4 e1),rfl,(br' h (fun e2 h => h)
  (fun e2 h => ⟨rf,rf,(hp5 e1 e2),(hp6 e1 e2),rf,rf,rf,rf,(hp7 e1 e2),(hp8 e1 e2),rf,rf,rf,rfl,(br' h (fun e3 h => h)
  (fun e3 h => h))⟩))⟩)
  (fun e1 h => h))))
theorem l_ref04_choiceErr_0 (p0:List Int) (p1:Bool) (hl:lenOk p0):OkL (st_ref04_choiceErr_0 p0 p1) (sp_ref04_choiceErr_0 p0 p1) 0∧lpv (0:Int) (st_ref04_choiceErr_0 p0 p1) 0 = v_scan (fun i n => cond p1 (v_ls1 1 20 p0 i n) (v_ls1 0 10 p0 i n)) (0:Int) 0 p0 := by
 refine scan_is p0 0 (fun i n => cond p1 (v_ls1 1 20 p0 i n) (v_ls1 0 10 p0 i n)) (0:Int) hl ?_ ?_
 ·refine ⟨by simp only [sp_ref04_choiceErr_0,List.forall_mem_cons,decide_eq_true_eq]; simp,by simp [st_ref04_choiceErr_0]⟩
 ·intro j hj
  have hj' : (j:Int) < p0.length := by omega
  have hw := wrap_nat (show (j:Int)≤9223372036854775806 by unfold lenOk at hl; omega)
  have hw2:IntKind.i64.wrap ((j:Int) - 1)=(j:Int) - 1 := wrap_id (by omega) (by unfold lenOk at hl; omega)
  refine ⟨by simp only [sp_ref04_choiceErr_0,List.forall_mem_cons,decide_eq_true_eq,Int.toNat_natCast]; rw [hw2]; cases p1 <;> and_intros <;> first | (intro p hp; cases hp; done) | (intros; first | omega | (simp_all; done) | (simp_all; omega)),?_⟩
  simp only [st_ref04_choiceErr_0,hj',decide_true,Int.toNat_natCast,cond_true,hw]
  unfold v_ls1
  rcases Nat.eq_zero_or_pos j with h0 | h0
  ·subst h0
   cases p1 <;> cases s_base_Within (p0.getD 0 0) 1 20 <;> cases s_base_Within (p0.getD 0 0) 0 10 <;> rfl
  ·have hz:((j:Int) == 0)=false := beq_eq_false_iff_ne.2 (by omega)
   have hz2:decide ((j:Int) > 0)=true := decide_eq_true (by omega)
   rw [hz,hw2,hz2]
   rcases Decidable.em (p0.getD j 0 > p0.getD ((j:Int) - 1).toNat 0) with c | c
   ·rw [decide_eq_true c,decide_eq_false (show ¬ p0.getD j 0≤p0.getD ((j:Int) - 1).toNat 0 by omega)]
    cases p1 <;> cases s_base_Within (p0.getD j 0) 1 20 <;> cases s_base_Within (p0.getD j 0) 0 10 <;> rfl
   ·rw [decide_eq_false c,decide_eq_true (show p0.getD j 0≤p0.getD ((j:Int) - 1).toNat 0 by omega)]
    cases p1 <;> cases s_base_Within (p0.getD j 0) 1 20 <;> cases s_base_Within (p0.getD j 0) 0 10 <;> rfl
abbrev t_ref04_choiceErr (p0:List Int) (p1:Bool):Int := cond p1 (v_ls 1 20 p0) (v_ls 0 10 p0)
abbrev qre_ref04_choiceErr (p0:List Int) (_p1:Bool):List Prop := [lenOk p0]
theorem pp_ref04_choiceErr (p0:List Int) (p1:Bool) (hq:∀ p∈qre_ref04_choiceErr p0 p1,p):∀ p∈pre_ref04_choiceErr p0 p1,p := by
 obtain ⟨h1,_⟩ := conj_of hq
 simp only [pre_ref04_choiceErr,List.forall_mem_cons]
 exact ⟨(l_ref04_choiceErr_0 p0 p1 h1).1,(by intro p hp; cases hp)⟩
theorem tt_ref04_choiceErr (p0:List Int) (p1:Bool) (hq:∀ p∈qre_ref04_choiceErr p0 p1,p):s_ref04_choiceErr p0 p1 = t_ref04_choiceErr p0 p1 := by
 obtain ⟨h1,_⟩ := conj_of hq
 refine (l_ref04_choiceErr_0 p0 p1 h1).2.trans ?_
 cases p1 <;> rfl

abbrev con_ref04_choiceErr:Con := ⟨P_ref04_choiceErr,R_ref04_choiceErr,fun x => qre_ref04_choiceErr x.1 x.2,fun x => t_ref04_choiceErr x.1 x.2⟩
theorem ok_ref04_choiceErr:ConOk Try.prog 99 con_ref04_choiceErr := ⟨k_ref04_choiceErr,fun x hx => ret_tf (ps := P_ref04_choiceErr) (rs := R_ref04_choiceErr) (x := x) (y := t_ref04_choiceErr x.1 x.2) e_ref04_choiceErr hC_ref04_choiceErr (tf_of (w_ref04_choiceErr_eq x.1 x.2 (fun z => z = t_ref04_choiceErr x.1 x.2)) (d_ref04_choiceErr x.1 x.2 (fun z => z = t_ref04_choiceErr x.1 x.2) (pp_ref04_choiceErr x.1 x.2 hx) (tt_ref04_choiceErr x.1 x.2 hx)))⟩
/- base_Ints -/
def C_base_Ints:Cons := []
theorem hC_base_Ints:ConsOk Try.prog C_base_Ints := ConsOk.nil
def w_base_Ints (p0:(List Int)) (p1:(List Int)) (K:Bool→Prop):Prop :=
  (((((p0.length:Int) != (p1.length:Int))=true) →
 (K false)) ∧
 ((((p0.length:Int) != (p1.length:Int))=false) →
 (∃ n0,(loopP (fun (y1:Int) k2 =>
   ((((decide (y1 < (p0.length:Int)))=true) →
   (((0:Int)≤y1) ∧
    ((y1 < (p0.length:Int)) ∧
    (((0:Int)≤y1) ∧
    ((y1 < (p1.length:Int)) ∧
    (((((p0.getD y1.toNat (0:Int)) != (p1.getD y1.toNat (0:Int)))=true) →
    (K false)) ∧
    ((((p0.getD y1.toNat (0:Int)) != (p1.getD y1.toNat (0:Int)))=false) →
    (k2 (IntKind.i64.wrap (y1 + 1)))))))))) ∧
   (((decide (y1 < (p0.length:Int)))=false) →
   (K true)))) n0 (0:Int)))))
set_option maxHeartbeats 4000000 in
theorem w_base_Ints_eq (p0:(List Int)) (p1:(List Int)) (K:Bool→Prop):tfn F_base_Ints A_base_Ints C_base_Ints P_base_Ints R_base_Ints (p0,p1) K = w_base_Ints p0 p1 K := by kernel_rfl
def st_base_Ints_0 (p0:(List Int)) (p1:(List Int)) (y1:Int):Int ⊕ Bool :=
 (cond (decide (y1 < (p0.length:Int))) (cond ((p0.getD y1.toNat (0:Int)) != (p1.getD y1.toNat (0:Int))) (Sum.inr false)
  (Sum.inl (IntKind.i64.wrap (y1 + 1))))
  (Sum.inr true))
abbrev sp_base_Ints_0 (p0:(List Int)) (p1:(List Int)) (y1:Int):List Prop := [(((decide (y1 < (p0.length:Int)))=true)→((0:Int)≤y1)),
  (((decide (y1 < (p0.length:Int)))=true)→(y1 < (p0.length:Int))),
  (((decide (y1 < (p0.length:Int)))=true)→(y1 < (p1.length:Int)))]
def s_base_Ints (p0:(List Int)) (p1:(List Int)):Bool :=
 (cond ((p0.length:Int) != (p1.length:Int)) false
  (lpv false (st_base_Ints_0 p0 p1) (0:Int)))
abbrev pre_base_Ints (p0:(List Int)) (p1:(List Int)):List Prop := [((((p0.length:Int) != (p1.length:Int))=false)→(OkL (st_base_Ints_0 p0 p1) (sp_base_Ints_0 p0 p1) (0:Int)))]
set_option maxHeartbeats 4000000 in
theorem d_base_Ints (p0:(List Int)) (p1:(List Int)) (K:Bool→Prop) (hp:∀ p∈pre_base_Ints p0 p1,p) (h:K (s_base_Ints p0 p1)):w_base_Ints p0 p1 K := by
 unfold w_base_Ints
 unfold s_base_Ints at h
 obtain ⟨hp0,_⟩ := conj_of hp
 exact (br' h (fun e0 h => h)
  (fun e0 h => (loop_gen (hp0 e0) h (fun y1 k1 hp h => by
 unfold st_base_Ints_0 at h; obtain ⟨hp0,hp1,hp2,_⟩ := conj_of hp
 exact (br' h (fun e2 h => ⟨(hp0 e2),(hp1 e2),(hp0 e2),(hp2 e2),(br' h (fun e3 h => h)
  (fun e3 h => h))⟩)
  (fun e2 h => h))))))
theorem l_base_Ints_0 (p0 p1:List Int) (hl:lenOk p0) (he:p0.length = p1.length):OkL (st_base_Ints_0 p0 p1) (sp_base_Ints_0 p0 p1) 0∧lpv false (st_base_Ints_0 p0 p1) 0 = v_scan (fun i x => cond (!((x == (p1.getD i.toNat 0)))) (some false) none) true 0 p0 := by
 refine scan_is p0 0 (fun i x => cond (!((x == (p1.getD i.toNat 0)))) (some false) none) true hl ?_ ?_
 ·refine ⟨by simp only [sp_base_Ints_0,List.forall_mem_cons,decide_eq_true_eq]; simp,by simp [st_base_Ints_0]⟩
 ·intro j hj
  have hj' : (j:Int) < p0.length := by omega
  refine ⟨by simp only [sp_base_Ints_0,List.forall_mem_cons,decide_eq_true_eq,Int.toNat_natCast]; simp <;> omega,?_⟩
  simp only [st_base_Ints_0,hj',decide_true,Int.toNat_natCast,cond_true,wrap_nat (show (j:Int)≤9223372036854775806 by unfold lenOk at hl; omega)]
  generalize p0.getD j 0 = x
  generalize p1.getD j 0 = z
  simp only [bne]
  cases (x == z) <;> rfl
abbrev t_base_Ints (p0 p1:List Int):Bool := decide (p0 = p1)
abbrev qre_base_Ints (p0 _p1:List Int):List Prop := [lenOk p0]
theorem pp_base_Ints (p0 p1:List Int) (hq:∀ p∈qre_base_Ints p0 p1,p):∀ p∈pre_base_Ints p0 p1,p := by
 simp only [pre_base_Ints,List.forall_mem_cons]
 refine ⟨fun h => (l_base_Ints_0 p0 p1 (conj_of hq).1 ?_).1,by simp⟩
 have h' : (p0.length:Int)=p1.length := by simpa using h
 omega
theorem tt_base_Ints (p0 p1:List Int) (hq:∀ p∈qre_base_Ints p0 p1,p):s_base_Ints p0 p1 = t_base_Ints p0 p1 := by
 unfold s_base_Ints t_base_Ints
 by_cases h:p0.length = p1.length
 ·rw [show ((p0.length:Int) != (p1.length:Int))=false by simp [h]]
  refine (l_base_Ints_0 p0 p1 (conj_of hq).1 h).2.trans ?_
  exact v_scan_eq 0 (fun x y => (x == y)) (fun x y => by by_cases h:x = y <;> simp [h]) p0 p1 h
 ·rw [show ((p0.length:Int) != (p1.length:Int))=true by simp; omega]
  have:p0 ≠ p1 := fun e => h (congrArg List.length e)
  simp [this]

abbrev con_base_Ints:Con := ⟨P_base_Ints,R_base_Ints,fun x => qre_base_Ints x.1 x.2,fun x => t_base_Ints x.1 x.2⟩
theorem ok_base_Ints:ConOk Try.prog 58 con_base_Ints := ⟨k_base_Ints,fun x hx => ret_tf (ps := P_base_Ints) (rs := R_base_Ints) (x := x) (y := t_base_Ints x.1 x.2) e_base_Ints hC_base_Ints (tf_of (w_base_Ints_eq x.1 x.2 (fun z => z = t_base_Ints x.1 x.2)) (d_base_Ints x.1 x.2 (fun z => z = t_base_Ints x.1 x.2) (pp_base_Ints x.1 x.2 hx) (tt_base_Ints x.1 x.2 hx)))⟩
/- ref04_CheckClass -/
def C_ref04_CheckClass:Cons := [(99,[],con_ref04_choiceErr),(58,[],con_base_Ints)]
theorem hC_ref04_CheckClass:ConsOk Try.prog C_ref04_CheckClass := ConsOk.cons ok_ref04_choiceErr <| ConsOk.cons ok_base_Ints <| ConsOk.nil
abbrev q1_ref04_CheckClass (p0:(List ((List Int)×(List Int)))) (y1:(Int×Int)) := (p0.getD y1.1.toNat (([]:List Int),([]:List Int)))
abbrev q0_ref04_CheckClass (p0:(List ((List Int)×(List Int)))) (y1:(Int×Int)) := ((((q1_ref04_CheckClass p0 y1).1.length:Nat):Int) == zz0)
def w_ref04_CheckClass (p0:(List ((List Int)×(List Int)))) (K:(Int×Int)→Prop):Prop :=
  (((((p0.length:Int) == zz0)=true) →
 (K (zz0,(10:Int)))) ∧
 ((((p0.length:Int) == zz0)=false) →
 ((((decide ((p0.length:Int) > 4))=true) →
  (K (zz0,(8:Int)))) ∧
  (((decide ((p0.length:Int) > 4))=false) →
  (∃ n0,(loopP (fun (y1:(Int×Int)) k2 =>
    ((((decide (y1.1 < (p0.length:Int)))=true) →
    ((zz0≤y1.1) ∧
     ((y1.1 < (p0.length:Int)) ∧
     ((((q0_ref04_CheckClass p0 y1)=false) →
     ((q0_ref04_CheckClass p0 y1)=(q0_ref04_CheckClass p0 y1))) ∧
     ((((q0_ref04_CheckClass p0 y1)=false) →
     ((q0_ref04_CheckClass p0 y1)=(q0_ref04_CheckClass p0 y1))) ∧
     ((((q0_ref04_CheckClass p0 y1)=false) →
     ((q0_ref04_CheckClass p0 y1)=(q0_ref04_CheckClass p0 y1))) ∧
     (((q0_ref04_CheckClass p0 y1)=(q0_ref04_CheckClass p0 y1)) ∧
     ((((cond (q0_ref04_CheckClass p0 y1) true ((((q1_ref04_CheckClass p0 y1).2.length:Nat):Int) == zz0))=true) →
     (K (y1.1,(10:Int)))) ∧
     (((cond (q0_ref04_CheckClass p0 y1) true ((((q1_ref04_CheckClass p0 y1).2.length:Nat):Int) == zz0))=false) →
     ((lenOk (q1_ref04_CheckClass p0 y1).1) ∧
      (((((v_ls zz1 (20:Int) (q1_ref04_CheckClass p0 y1).1) != zz0)=true) →
      (K (y1.1,(v_ls zz1 (20:Int) (q1_ref04_CheckClass p0 y1).1)))) ∧
      ((((v_ls zz1 (20:Int) (q1_ref04_CheckClass p0 y1).1) != zz0)=false) →
      ((lenOk (q1_ref04_CheckClass p0 y1).2) ∧
       (((((v_ls zz0 (10:Int) (q1_ref04_CheckClass p0 y1).2) != zz0)=true) →
       (K (y1.1,(v_ls zz0 (10:Int) (q1_ref04_CheckClass p0 y1).2)))) ∧
       ((((v_ls zz0 (10:Int) (q1_ref04_CheckClass p0 y1).2) != zz0)=false) →
       ((((y1.1 == (wi ((p0.length:Int) - zz1)))=true) →
        ((y1.1 == (wi ((p0.length:Int) - zz1)))=(y1.1 == (wi ((p0.length:Int) - zz1))))) ∧
        ((((y1.1 == (wi ((p0.length:Int) - zz1)))=true) →
        ((y1.1 == (wi ((p0.length:Int) - zz1)))=(y1.1 == (wi ((p0.length:Int) - zz1))))) ∧
        ((((y1.1 == (wi ((p0.length:Int) - zz1)))=true) →
        ((y1.1 == (wi ((p0.length:Int) - zz1)))=(y1.1 == (wi ((p0.length:Int) - zz1))))) ∧
        ((((y1.1 == (wi ((p0.length:Int) - zz1)))=true) →
        (lenOk (q1_ref04_CheckClass p0 y1).2)) ∧
        ((((y1.1 == (wi ((p0.length:Int) - zz1)))=true) →
        ((y1.1 == (wi ((p0.length:Int) - zz1)))=(y1.1 == (wi ((p0.length:Int) - zz1))))) ∧
        (((y1.1 == (wi ((p0.length:Int) - zz1)))=(y1.1 == (wi ((p0.length:Int) - zz1)))) ∧
        ((((cond (y1.1 == (wi ((p0.length:Int) - zz1))) (!(decide ((q1_ref04_CheckClass p0 y1).2 = (zz0 :: ([]:List Int))))) false)=true) →
        (K (y1.1,zz3))) ∧
        (((cond (y1.1 == (wi ((p0.length:Int) - zz1))) (!(decide ((q1_ref04_CheckClass p0 y1).2 = (zz0 :: ([]:List Int))))) false)=false) →
        (k2 ((wi (y1.1 + zz1)),(wi ((wi (y1.2 * (((q1_ref04_CheckClass p0 y1).1.length:Nat):Int))) * (((q1_ref04_CheckClass p0 y1).2.length:Nat):Int)))))))))))))))))))))))))))) ∧
    (((decide (y1.1 < (p0.length:Int)))=false) →
    ((((decide (y1.2 > 300))=true) →
     (K (zz0,(16:Int)))) ∧
     (((decide (y1.2 > 300))=false) →
     (K (zz0,zz0))))))) n0 (zz0,zz1)))))))
set_option maxHeartbeats 4000000 in
theorem w_ref04_CheckClass_eq (p0:(List ((List Int)×(List Int)))) (K:(Int×Int)→Prop):tfn F_ref04_CheckClass A_ref04_CheckClass C_ref04_CheckClass P_ref04_CheckClass R_ref04_CheckClass p0 K = w_ref04_CheckClass p0 K := by kernel_rfl
def st_ref04_CheckClass_0 (p0:(List ((List Int)×(List Int)))) (y2:(Int×Int)):(Int×Int) ⊕ (Int×Int) :=
 (cond (decide (y2.1 < (p0.length:Int))) (cond (cond ((((List.length (p0.getD y2.1.toNat (([]:List Int),([]:List Int))).1):Nat):Int) == 0) true ((((List.length (p0.getD y2.1.toNat (([]:List Int),([]:List Int))).2):Nat):Int) == 0)) (Sum.inr (y2.1,(10:Int)))
  (cond ((v_ls (1:Int) (20:Int) (p0.getD y2.1.toNat (([]:List Int),([]:List Int))).1) != 0) (Sum.inr (y2.1,(v_ls (1:Int) (20:Int) (p0.getD y2.1.toNat (([]:List Int),([]:List Int))).1)))
  (cond ((v_ls (0:Int) (10:Int) (p0.getD y2.1.toNat (([]:List Int),([]:List Int))).2) != 0) (Sum.inr (y2.1,(v_ls (0:Int) (10:Int) (p0.getD y2.1.toNat (([]:List Int),([]:List Int))).2)))
  (cond (cond (y2.1 == (IntKind.i64.wrap ((p0.length:Int) - 1))) (!(decide ((p0.getD y2.1.toNat (([]:List Int),([]:List Int))).2 = ((0:Int) :: ([]:List Int))))) false) (Sum.inr (y2.1,(3:Int)))
  (Sum.inl ((IntKind.i64.wrap (y2.1 + 1)),(IntKind.i64.wrap ((IntKind.i64.wrap (y2.2 * (((List.length (p0.getD y2.1.toNat (([]:List Int),([]:List Int))).1):Nat):Int))) * (((List.length (p0.getD y2.1.toNat (([]:List Int),([]:List Int))).2):Nat):Int)))))))))
  (cond (decide (y2.2 > 300)) (Sum.inr ((0:Int),(16:Int)))
  (Sum.inr ((0:Int),(0:Int)))))
abbrev sp_ref04_CheckClass_0 (p0:(List ((List Int)×(List Int)))) (y2:(Int×Int)):List Prop := [(((decide (y2.1 < (p0.length:Int)))=true)→((0:Int)≤y2.1)),
  (((decide (y2.1 < (p0.length:Int)))=true)→(y2.1 < (p0.length:Int))),
  (((decide (y2.1 < (p0.length:Int)))=true)→(((cond ((((List.length (p0.getD y2.1.toNat (([]:List Int),([]:List Int))).1):Nat):Int) == 0) true ((((List.length (p0.getD y2.1.toNat (([]:List Int),([]:List Int))).2):Nat):Int) == 0))=false)→(lenOk (p0.getD y2.1.toNat (([]:List Int),([]:List Int))).1))),
  (((decide (y2.1 < (p0.length:Int)))=true)→(((cond ((((List.length (p0.getD y2.1.toNat (([]:List Int),([]:List Int))).1):Nat):Int) == 0) true ((((List.length (p0.getD y2.1.toNat (([]:List Int),([]:List Int))).2):Nat):Int) == 0))=false)→((((v_ls (1:Int) (20:Int) (p0.getD y2.1.toNat (([]:List Int),([]:List Int))).1) != 0)=false)→(lenOk (p0.getD y2.1.toNat (([]:List Int),([]:List Int))).2)))),
  (((decide (y2.1 < (p0.length:Int)))=true)→(((cond ((((List.length (p0.getD y2.1.toNat (([]:List Int),([]:List Int))).1):Nat):Int) == 0) true ((((List.length (p0.getD y2.1.toNat (([]:List Int),([]:List Int))).2):Nat):Int) == 0))=false)→((((v_ls (1:Int) (20:Int) (p0.getD y2.1.toNat (([]:List Int),([]:List Int))).1) != 0)=false)→((((v_ls (0:Int) (10:Int) (p0.getD y2.1.toNat (([]:List Int),([]:List Int))).2) != 0)=false)→(((y2.1 == (IntKind.i64.wrap ((p0.length:Int) - 1)))=true)→(lenOk (p0.getD y2.1.toNat (([]:List Int),([]:List Int))).2))))))]
def s_ref04_CheckClass (p0:(List ((List Int)×(List Int)))):(Int×Int) :=
 (cond ((p0.length:Int) == 0) ((0:Int),(10:Int))
  (cond (decide ((p0.length:Int) > 4)) ((0:Int),(8:Int))
  (lpv ((0:Int),(0:Int)) (st_ref04_CheckClass_0 p0) ((0:Int),(1:Int)))))
abbrev pre_ref04_CheckClass (p0:(List ((List Int)×(List Int)))):List Prop := [((((p0.length:Int) == 0)=false)→(((decide ((p0.length:Int) > 4))=false)→(OkL (st_ref04_CheckClass_0 p0) (sp_ref04_CheckClass_0 p0) ((0:Int),(1:Int)))))]
set_option maxHeartbeats 4000000 in
theorem d_ref04_CheckClass (p0:(List ((List Int)×(List Int)))) (K:(Int×Int)→Prop) (hp:∀ p∈pre_ref04_CheckClass p0,p) (h:K (s_ref04_CheckClass p0)):w_ref04_CheckClass p0 K := by
 unfold w_ref04_CheckClass
 unfold s_ref04_CheckClass at h
 obtain ⟨hp0,_⟩ := conj_of hp
 exact (br' h (fun e0 h => h)
  (fun e0 h => (br' h (fun e1 h => h)
  (fun e1 h => (loop_gen (hp0 e0 e1) h (fun y2 k2 hp h => by
 unfold st_ref04_CheckClass_0 at h; obtain ⟨hp0,hp1,hp2,hp3,hp4,_⟩ := conj_of hp
 exact (br' h (fun e3 h => ⟨(hp0 e3),(hp1 e3),rf,rf,rf,rfl,(br' h (fun e4 h => h)
  (fun e4 h => ⟨(hp2 e3 e4),(br' h (fun e5 h => h)
  (fun e5 h => ⟨(hp3 e3 e4 e5),(br' h (fun e6 h => h)
  (fun e6 h => ⟨rf,rf,rf,(hp4 e3 e4 e5 e6),rf,rfl,(br' h (fun e7 h => h)
  (fun e7 h => h))⟩))⟩))⟩))⟩)
  (fun e3 h => (br' h (fun e8 h => h)
  (fun e8 h => h))))))))))
theorem l_ref04_CheckClass_0 (p0:List (List Int×List Int)) (hl:p0.length≤4) (hf:v_few p0):OkL (st_ref04_CheckClass_0 p0) (sp_ref04_CheckClass_0 p0) (0,1)∧lpv (0,0) (st_ref04_CheckClass_0 p0) (0,1)=v_ccs p0.length 0 1 p0 := by
 refine @for_is Int (Int×Int) (Int×Int) (0,0) (st_ref04_CheckClass_0 p0) (sp_ref04_CheckClass_0 p0) (fun i t => (i,t)) 0 p0.length (fun j t => 0≤t∧t≤484 ^ j) (fun j t => v_ccs p0.length j t (p0.drop j)) (by omega) (by omega) ?_ ?_ 1 ⟨by decide,by decide⟩
 ·intro t _
  simp only [sp_ref04_CheckClass_0,st_ref04_CheckClass_0,List.forall_mem_cons,show decide ((p0.length:Int) < (p0.length:Int))=false from decide_eq_false (by omega),cond_false,List.drop_length,v_ccs]
  refine ⟨?_,?_⟩
  ·and_intros
   all_goals first
    | (intro h; cases h; done)
    | (intro p hp; cases hp)
  ·rcases Decidable.em (t≤300) with c | c
   ·rw [decide_eq_true c,decide_eq_false (show ¬ t > 300 by omega)]; rfl
   ·rw [decide_eq_false c,decide_eq_true (show t > 300 by omega)]; rfl
 ·intro j t _ hj ht
  have hd1:decide ((j:Int) < (p0.length:Int))=true := decide_eq_true (by omega)
  have hw1:IntKind.i64.wrap ((j:Int) + 1)=((j + 1:Nat):Int) := wrap_id (by omega) (by omega)
  have hw2:IntKind.i64.wrap ((p0.length:Int) - 1)=(p0.length:Int) - 1 := wrap_id (by omega) (by omega)
  rw [drop_getD ([],[]) hj]
  have hx := hf.len _ (v_getD_mem (d := ([],[])) hj)
  simp only [sp_ref04_CheckClass_0,st_ref04_CheckClass_0,List.forall_mem_cons,hd1,cond_true,cond_false,Int.toNat_natCast,hw1,hw2]
  obtain ⟨b1,b2,b3,b4,b5⟩ := v_cb (j := j) (by omega) ht (a := ((p0.getD j ([],[])).1.length:Int)) (b := ((p0.getD j ([],[])).2.length:Int)) (by omega) (by omega)
  have w1:IntKind.i64.wrap (((p0.getD j ([],[])).1.length:Int) * ((p0.getD j ([],[])).2.length:Int))=((p0.getD j ([],[])).1.length:Int) * ((p0.getD j ([],[])).2.length:Int) := wrap_id (by omega) (by omega)
  have w2:IntKind.i64.wrap (t * (((p0.getD j ([],[])).1.length:Int) * ((p0.getD j ([],[])).2.length:Int)))=t * (((p0.getD j ([],[])).1.length:Int) * ((p0.getD j ([],[])).2.length:Int)) := wrap_id (by omega) (by omega)
  have w3:IntKind.i64.wrap (t * ((p0.getD j ([],[])).1.length:Int))=t * ((p0.getD j ([],[])).1.length:Int) := wrap_id (by omega) (by omega)
  have k1:lenOk (p0.getD j ([],[])).1 := lenOk_le hx.1 (by decide)
  have k2:lenOk (p0.getD j ([],[])).2 := lenOk_le hx.2 (by decide)
  refine ⟨?_,?_⟩
  ·and_intros
   all_goals first
    | (intro p hp; cases hp; done)
    | (intros; assumption)
    | (intros; omega)
  ·have ea:(((p0.getD j ([],[])).1.length:Int) == 0) = !decide (((p0.getD j ([],[])).1.length:Int) > 0) := by
    rcases Decidable.em (((p0.getD j ([],[])).1.length:Int) > 0) with c | c
    ·rw [decide_eq_true c,beq_eq_false_iff_ne.2 (by omega)]; rfl
    ·rw [decide_eq_false c,beq_iff_eq.2 (by omega)]; rfl
   have eb:(((p0.getD j ([],[])).2.length:Int) == 0) = !decide (((p0.getD j ([],[])).2.length:Int) > 0) := by
    rcases Decidable.em (((p0.getD j ([],[])).2.length:Int) > 0) with c | c
    ·rw [decide_eq_true c,beq_eq_false_iff_ne.2 (by omega)]; rfl
    ·rw [decide_eq_false c,beq_iff_eq.2 (by omega)]; rfl
   rw [show v_ccs p0.length j t ((p0.getD j ([],[])) :: p0.drop (j + 1))=cond (v_cle p0.length j (p0.getD j ([],[])) != 0) (↑j,v_cle p0.length j (p0.getD j ([],[]))) (v_ccs p0.length ((j:Int) + 1) (t * (((p0.getD j ([],[])).1.length:Int) * ((p0.getD j ([],[])).2.length:Int))) (p0.drop (j + 1))) from rfl]
   unfold v_cle
   rw [ea,eb,w3,b5]
   cases decide (((p0.getD j ([],[])).1.length:Int) > 0)
   ·right; rfl
   cases decide (((p0.getD j ([],[])).2.length:Int) > 0)
   ·right; rfl
   simp only [Bool.not_true,cond_true,cond_false]
   rcases int0 (v_ls 1 20 (p0.getD j ([],[])).1) with ⟨_,e1,_⟩ | ⟨_,e1,_⟩
   rotate_left
   ·right; simp only [e1,cond_true]
   simp only [e1,cond_false]
   rcases int0 (v_ls 0 10 (p0.getD j ([],[])).2) with ⟨_,e2,_⟩ | ⟨_,e2,_⟩
   rotate_left
   ·right; simp only [e2,cond_true]
   simp only [e2,cond_false]
   have hin:cond ((j:Int) == (p0.length:Int) - 1) (!(decide ((p0.getD j ([],[])).2 = [0]))) false = !(cond (!((j:Int) == (p0.length:Int) - 1)) true (decide ((p0.getD j ([],[])).2 = [0]))) := by
    cases ((j:Int) == (p0.length:Int) - 1) <;> cases decide ((p0.getD j ([],[])).2 = [0]) <;> rfl
   rw [hin]
   cases cond (!((j:Int) == (p0.length:Int) - 1)) true (decide ((p0.getD j ([],[])).2 = [0]))
   ·right; rfl
   ·left
    refine ⟨_,?_,⟨b3.1,b4⟩,?_⟩
    ·show Sum.inl _ = Sum.inl _
     rw [wrap_id (n := t * (((p0.getD j ([],[])).1.length:Int) * ((p0.getD j ([],[])).2.length:Int))) (by omega) (by omega)]
    ·rw [show ((j + 1:Nat):Int)=(j:Int) + 1 by omega]; rfl
abbrev t_ref04_CheckClass (p0:List (List Int×List Int)):Int×Int := v_cc p0
abbrev qre_ref04_CheckClass (p0:List (List Int×List Int)):List Prop := [v_few p0]
theorem pp_ref04_CheckClass (p0:List (List Int×List Int)) (hq:∀ p∈qre_ref04_CheckClass p0,p):∀ p∈pre_ref04_CheckClass p0,p := by
 obtain ⟨h1,_⟩ := conj_of hq
 simp only [pre_ref04_CheckClass,List.forall_mem_cons]
 refine ⟨fun _ h => ?_,by intro p hp; cases hp⟩
 exact (l_ref04_CheckClass_0 p0 (by have := of_decide_eq_false h; omega) h1).1
theorem tt_ref04_CheckClass (p0:List (List Int×List Int)) (hq:∀ p∈qre_ref04_CheckClass p0,p):s_ref04_CheckClass p0 = t_ref04_CheckClass p0 := by
 obtain ⟨h1,_⟩ := conj_of hq
 unfold s_ref04_CheckClass t_ref04_CheckClass v_cc
 rcases Decidable.em ((p0.length:Int) > 4) with c | c
 ·rw [decide_eq_true c]; rfl
 ·rw [decide_eq_false c,(l_ref04_CheckClass_0 p0 (by omega) h1).2]

abbrev con_ref04_CheckClass:Con := ⟨P_ref04_CheckClass,R_ref04_CheckClass,fun x => qre_ref04_CheckClass x,fun x => t_ref04_CheckClass x⟩
theorem ok_ref04_CheckClass:ConOk Try.prog 33 con_ref04_CheckClass := ⟨k_ref04_CheckClass,fun x hx => ret_tf (ps := P_ref04_CheckClass) (rs := R_ref04_CheckClass) (x := x) (y := t_ref04_CheckClass x) e_ref04_CheckClass hC_ref04_CheckClass (tf_of (w_ref04_CheckClass_eq x (fun z => z = t_ref04_CheckClass x)) (d_ref04_CheckClass x (fun z => z = t_ref04_CheckClass x) (pp_ref04_CheckClass x hx) (tt_ref04_CheckClass x hx)))⟩
/- ref04_ModelErr -/
def C_ref04_ModelErr:Cons := [(17,[],con_ref04_CheckModel)]
theorem hC_ref04_ModelErr:ConsOk Try.prog C_ref04_ModelErr := ConsOk.cons ok_ref04_CheckModel <| ConsOk.nil
def w_ref04_ModelErr (p0:(List (Int×Int))) (K:Int→Prop):Prop :=
  (K (v_cm p0).2)
set_option maxHeartbeats 4000000 in
theorem w_ref04_ModelErr_eq (p0:(List (Int×Int))) (K:Int→Prop):tfn F_ref04_ModelErr A_ref04_ModelErr C_ref04_ModelErr P_ref04_ModelErr R_ref04_ModelErr p0 K = w_ref04_ModelErr p0 K := by kernel_rfl
def s_ref04_ModelErr (p0:(List (Int×Int))):Int :=
 (v_cm p0).2
abbrev pre_ref04_ModelErr (_p0:(List (Int×Int))):List Prop := []
set_option maxHeartbeats 4000000 in
theorem d_ref04_ModelErr (p0:(List (Int×Int))) (K:Int→Prop) (_hp:∀ p∈pre_ref04_ModelErr p0,p) (h:K (s_ref04_ModelErr p0)):w_ref04_ModelErr p0 K := by
 unfold w_ref04_ModelErr
 unfold s_ref04_ModelErr at h
 exact h
abbrev con_ref04_ModelErr:Con := ⟨P_ref04_ModelErr,R_ref04_ModelErr,fun x => pre_ref04_ModelErr x,fun x => s_ref04_ModelErr x⟩
theorem ok_ref04_ModelErr:ConOk Try.prog 21 con_ref04_ModelErr := ⟨k_ref04_ModelErr,fun x hx => ret_tf (ps := P_ref04_ModelErr) (rs := R_ref04_ModelErr) (x := x) (y := s_ref04_ModelErr x) e_ref04_ModelErr hC_ref04_ModelErr (tf_of (w_ref04_ModelErr_eq x (fun z => z = s_ref04_ModelErr x)) (d_ref04_ModelErr x (fun z => z = s_ref04_ModelErr x) hx rfl))⟩
/- law04_GroundClasses -/
def C_law04_GroundClasses:Cons := [(12,[],con_law04_awake),(27,[],con_law04_Few),(13,[],con_law04_few),(29,[],con_ref04_CopyClass),(28,[],con_ground_CheckClass),(30,[],con_ground_CountOf),(31,[],con_ground_ModelOf),(15,ownMark,con_ref04_CopyModel),(32,[],con_ground_NumberOf),(33,[],con_ref04_CheckClass),(34,[],con_ref04_Count),(35,[],con_base_Within),(37,[],con_ref04_Model),(36,[],con_ref04_SameModel),(21,[],con_ref04_ModelErr),(38,[],con_ref04_Number)]
theorem hC_law04_GroundClasses:ConsOk Try.prog C_law04_GroundClasses := ConsOk.cons ok_law04_awake <| ConsOk.cons ok_law04_Few <| ConsOk.cons ok_law04_few <| ConsOk.cons ok_ref04_CopyClass <| ConsOk.cons ok_ground_CheckClass <| ConsOk.cons ok_ground_CountOf <| ConsOk.cons ok_ground_ModelOf <| ConsOk.consO ok_ref04_CopyModel <| ConsOk.cons ok_ground_NumberOf <| ConsOk.cons ok_ref04_CheckClass <| ConsOk.cons ok_ref04_Count <| ConsOk.cons ok_base_Within <| ConsOk.cons ok_ref04_Model <| ConsOk.cons ok_ref04_SameModel <| ConsOk.cons ok_ref04_ModelErr <| ConsOk.cons ok_ref04_Number <| ConsOk.nil
abbrev q5_law04_GroundClasses (p0:(List ((List Int)×(List Int)))) (p2:(List (Int×Int))) := (cond (decide ((v_findi p2 (v_mdls p0)) < zz0)) ((v_nof p0 (([]:List (Int×Int)) ++ p2)).2 == 6) false)
abbrev q0_law04_GroundClasses (p0:(List ((List Int)×(List Int)))) (p2:(List (Int×Int))) := (cond (q5_law04_GroundClasses p0 p2) ((v_nof p0 (([]:List (Int×Int)) ++ p2)).1 == zz0) false)
abbrev q11_law04_GroundClasses (p0:(List ((List Int)×(List Int)))) := (cond ((v_cof p0).2 == (v_cc p0).2) ((v_cof p0).1 == zz0) false)
abbrev q4_law04_GroundClasses (p0:(List ((List Int)×(List Int)))) (p1:Int) := (cond (q11_law04_GroundClasses p0) ((v_mof2 p0 p1).2 == (v_cc p0).2) false)
abbrev q1_law04_GroundClasses (p0:(List ((List Int)×(List Int)))) (p1:Int) := (cond (q4_law04_GroundClasses p0 p1) ((((v_mof2 p0 p1).1.length:Nat):Int) == zz0) false)
abbrev q10_law04_GroundClasses (p0:(List ((List Int)×(List Int)))) (p2:(List (Int×Int))) := (cond (decide ((v_findi p2 (v_mdls p0)) ≥ zz0)) ((v_nof p0 (([]:List (Int×Int)) ++ p2)).2 == zz0) false)
abbrev q2_law04_GroundClasses (p0:(List ((List Int)×(List Int)))) (p2:(List (Int×Int))) := ((!(q0_law04_GroundClasses p0 p2)) && (q10_law04_GroundClasses p0 p2))
abbrev q3_law04_GroundClasses (p0:(List ((List Int)×(List Int)))) (p1:Int) := (cond (cond ((v_mof2 p0 p1).2 != zz0) true (!(decide ((v_mof2 p0 p1).1 = (v_mdl p0 p1))))) true ((v_nof p0 (([]:List (Int×Int)) ++ (v_mof2 p0 p1).1)).2 != zz0))
abbrev q6_law04_GroundClasses (p0:(List ((List Int)×(List Int)))) (p2:(List (Int×Int))) := ((!(q0_law04_GroundClasses p0 p2)) && (decide ((v_findi p2 (v_mdls p0)) ≥ zz0)))
abbrev q7_law04_GroundClasses (p0:(List ((List Int)×(List Int)))) (p1:Int) (p2:(List (Int×Int))) := (cond (q1_law04_GroundClasses p0 p1) ((v_nof p0 (([]:List (Int×Int)) ++ p2)).2 == (v_cc p0).2) false)
abbrev q8_law04_GroundClasses (p0:(List ((List Int)×(List Int)))) (p2:(List (Int×Int))) := ((q0_law04_GroundClasses p0 p2)=(q0_law04_GroundClasses p0 p2))
abbrev q9_law04_GroundClasses (p0:(List ((List Int)×(List Int)))) (p2:(List (Int×Int))) := (((v_nof p0 (([]:List (Int×Int)) ++ p2)).2 == (v_cm p2).2)=((v_nof p0 (([]:List (Int×Int)) ++ p2)).2 == (v_cm p2).2))
def w_law04_GroundClasses (p0:(List ((List Int)×(List Int)))) (p1:Int) (p2:(List (Int×Int))) (K:Bool→Prop):Prop :=
  ((((!(s_law04_awake))=true) →
 (K false)) ∧
 (((!(s_law04_awake))=false) →
 ((((!(v_fewb p0))=false) →
  ((!(v_fewb p0))=(!(v_fewb p0)))) ∧
  ((((!(v_fewb p0))=false) →
  ((!(v_fewb p0))=(!(v_fewb p0)))) ∧
  (((!(v_fewb p0))=(!(v_fewb p0))) ∧
  ((((cond (!(v_fewb p0)) true (!(decide ((p2.length:Int)≤6))))=true) →
  (K true)) ∧
  (((cond (!(v_fewb p0)) true (!(decide ((p2.length:Int)≤6))))=false) →
  ((p0.length≤6) ∧
   ((v_few p0) ∧
   ((v_few p0) ∧
   ((p0.length≤6) ∧
   ((v_few p0) ∧
   ((v_few p0) ∧
   ((p0.length≤6) ∧
   ((v_few p0) ∧
   ((v_few p0) ∧
   ((p0.length≤6) ∧
   ((v_few p0) ∧
   (((((List.length ([]:List (Int×Int))) + p2.length) * 16)≤140737488355328) ∧
   ((v_few p0) ∧
   ((v_few p0) ∧
   (((((v_cc p0).2 != (v_cc p0).2)=false) →
   (((v_cc p0).2 != (v_cc p0).2)=((v_cc p0).2 != (v_cc p0).2))) ∧
   (((((v_cc p0).2 != (v_cc p0).2)=false) →
   (((v_cc p0).2 != (v_cc p0).2)=((v_cc p0).2 != (v_cc p0).2))) ∧
   ((((v_cc p0).2 != (v_cc p0).2)=((v_cc p0).2 != (v_cc p0).2)) ∧
   ((((cond ((v_cc p0).2 != (v_cc p0).2) true ((v_cc p0).1 != (v_cc p0).1))=true) →
   (K false)) ∧
   (((cond ((v_cc p0).2 != (v_cc p0).2) true ((v_cc p0).1 != (v_cc p0).1))=false) →
   (((((v_cc p0).2 != zz0)=true) →
    (((((v_cof p0).2 == (v_cc p0).2)=true) →
     (((v_cof p0).2 == (v_cc p0).2)=((v_cof p0).2 == (v_cc p0).2))) ∧
     ((((v_cof p0).2 == (v_cc p0).2)=((v_cof p0).2 == (v_cc p0).2)) ∧
     ((((q11_law04_GroundClasses p0)=true) →
     ((q11_law04_GroundClasses p0)=(q11_law04_GroundClasses p0))) ∧
     ((((q11_law04_GroundClasses p0)=true) →
     ((q11_law04_GroundClasses p0)=(q11_law04_GroundClasses p0))) ∧
     (((q11_law04_GroundClasses p0)=(q11_law04_GroundClasses p0)) ∧
     ((((q4_law04_GroundClasses p0 p1)=true) →
     ((q4_law04_GroundClasses p0 p1)=(q4_law04_GroundClasses p0 p1))) ∧
     ((((q4_law04_GroundClasses p0 p1)=true) →
     ((q4_law04_GroundClasses p0 p1)=(q4_law04_GroundClasses p0 p1))) ∧
     ((((q4_law04_GroundClasses p0 p1)=true) →
     ((q4_law04_GroundClasses p0 p1)=(q4_law04_GroundClasses p0 p1))) ∧
     (((q4_law04_GroundClasses p0 p1)=(q4_law04_GroundClasses p0 p1)) ∧
     ((((q1_law04_GroundClasses p0 p1)=true) →
     ((q1_law04_GroundClasses p0 p1)=(q1_law04_GroundClasses p0 p1))) ∧
     ((((q1_law04_GroundClasses p0 p1)=true) →
     ((q1_law04_GroundClasses p0 p1)=(q1_law04_GroundClasses p0 p1))) ∧
     (((q1_law04_GroundClasses p0 p1)=(q1_law04_GroundClasses p0 p1)) ∧
     ((((q7_law04_GroundClasses p0 p1 p2)=true) →
     ((q7_law04_GroundClasses p0 p1 p2)=(q7_law04_GroundClasses p0 p1 p2))) ∧
     (((q7_law04_GroundClasses p0 p1 p2)=(q7_law04_GroundClasses p0 p1 p2)) ∧
     (K (cond (q7_law04_GroundClasses p0 p1 p2) ((v_nof p0 (([]:List (Int×Int)) ++ p2)).1 == zz0) false))))))))))))))))) ∧
    ((((v_cc p0).2 != zz0)=false) →
    (((((v_cof p0).2 != zz0)=false) →
     (((v_cof p0).2 != zz0)=((v_cof p0).2 != zz0))) ∧
     (((((v_cof p0).2 != zz0)=false) →
     (v_few p0)) ∧
     (((((v_cof p0).2 != zz0)=false) →
     (p0.length≤4)) ∧
     (((((v_cof p0).2 != zz0)=false) →
     (((v_cof p0).2 != zz0)=((v_cof p0).2 != zz0))) ∧
     (((((v_cof p0).2 != zz0)=false) →
     (((v_cof p0).2 != zz0)=((v_cof p0).2 != zz0))) ∧
     ((((v_cof p0).2 != zz0)=((v_cof p0).2 != zz0)) ∧
     ((((cond ((v_cof p0).2 != zz0) true ((v_cof p0).1 != (v_count p0)))=true) →
     (K false)) ∧
     (((cond ((v_cof p0).2 != zz0) true ((v_cof p0).1 != (v_count p0)))=false) →
     ((((!(s_base_Within p1 zz0 (wi ((v_cof p0).1 - zz1))))=true) →
      (((((v_mof2 p0 p1).2 != 6)=false) →
       (((v_mof2 p0 p1).2 != 6)=((v_mof2 p0 p1).2 != 6))) ∧
       (((((v_mof2 p0 p1).2 != 6)=false) →
       (((v_mof2 p0 p1).2 != 6)=((v_mof2 p0 p1).2 != 6))) ∧
       (((((v_mof2 p0 p1).2 != 6)=false) →
       (((v_mof2 p0 p1).2 != 6)=((v_mof2 p0 p1).2 != 6))) ∧
       ((((v_mof2 p0 p1).2 != 6)=((v_mof2 p0 p1).2 != 6)) ∧
       ((((cond ((v_mof2 p0 p1).2 != 6) true ((((v_mof2 p0 p1).1.length:Nat):Int) != zz0))=true) →
       (K false)) ∧
       (((cond ((v_mof2 p0 p1).2 != 6) true ((((v_mof2 p0 p1).1.length:Nat):Int) != zz0))=false) →
       (((((v_cm p2).2 != zz0)=true) →
        (((((v_nof p0 (([]:List (Int×Int)) ++ p2)).2 == (v_cm p2).2)=true) →
         (q9_law04_GroundClasses p0 p2)) ∧
         ((q9_law04_GroundClasses p0 p2) ∧
         (K (cond ((v_nof p0 (([]:List (Int×Int)) ++ p2)).2 == (v_cm p2).2) ((v_nof p0 (([]:List (Int×Int)) ++ p2)).1 == zz0) false))))) ∧
        ((((v_cm p2).2 != zz0)=false) →
        ((v_cne p0) ∧
         (((v_count p0)≤300) ∧
         ((((decide ((v_findi p2 (v_mdls p0)) < zz0))=true) →
         ((decide ((v_findi p2 (v_mdls p0)) < zz0))=(decide ((v_findi p2 (v_mdls p0)) < zz0)))) ∧
         (((decide ((v_findi p2 (v_mdls p0)) < zz0))=(decide ((v_findi p2 (v_mdls p0)) < zz0))) ∧
         ((((q5_law04_GroundClasses p0 p2)=true) →
         ((q5_law04_GroundClasses p0 p2)=(q5_law04_GroundClasses p0 p2))) ∧
         (((q5_law04_GroundClasses p0 p2)=(q5_law04_GroundClasses p0 p2)) ∧
         ((((q0_law04_GroundClasses p0 p2)=false) →
         (q8_law04_GroundClasses p0 p2)) ∧
         ((((q0_law04_GroundClasses p0 p2)=false) →
         (q8_law04_GroundClasses p0 p2)) ∧
         ((((q6_law04_GroundClasses p0 p2)=true) →
         ((q6_law04_GroundClasses p0 p2)=(q6_law04_GroundClasses p0 p2))) ∧
         ((((q0_law04_GroundClasses p0 p2)=false) →
         (q8_law04_GroundClasses p0 p2)) ∧
         ((((q0_law04_GroundClasses p0 p2)=false) →
         ((q6_law04_GroundClasses p0 p2)=(decide ((v_findi p2 (v_mdls p0)) ≥ zz0)))) ∧
         ((((q0_law04_GroundClasses p0 p2)=false) →
         (q8_law04_GroundClasses p0 p2)) ∧
         ((((q2_law04_GroundClasses p0 p2)=true) →
         ((q2_law04_GroundClasses p0 p2)=(q2_law04_GroundClasses p0 p2))) ∧
         ((((q2_law04_GroundClasses p0 p2)=true) →
         ((q2_law04_GroundClasses p0 p2)=(q2_law04_GroundClasses p0 p2))) ∧
         ((((q0_law04_GroundClasses p0 p2)=false) →
         (q8_law04_GroundClasses p0 p2)) ∧
         ((((q0_law04_GroundClasses p0 p2)=false) →
         ((q2_law04_GroundClasses p0 p2)=(q10_law04_GroundClasses p0 p2))) ∧
         ((q8_law04_GroundClasses p0 p2) ∧
         (K (cond (q0_law04_GroundClasses p0 p2) true (cond (q10_law04_GroundClasses p0 p2) ((v_nof p0 (([]:List (Int×Int)) ++ p2)).1 == (v_findi p2 (v_mdls p0))) false))))))))))))))))))))))))))))) ∧
      (((!(s_base_Within p1 zz0 (wi ((v_cof p0).1 - zz1))))=false) →
      ((p0.length≤6) ∧
       ((v_few p0) ∧
       (((((List.length ([]:List (Int×Int))) + (List.length (v_mof2 p0 p1).1)) * 16)≤140737488355328) ∧
       ((v_few p0) ∧
       (((((v_mof2 p0 p1).2 != zz0)=false) →
       (((v_mof2 p0 p1).2 != zz0)=((v_mof2 p0 p1).2 != zz0))) ∧
       (((((v_mof2 p0 p1).2 != zz0)=false) →
       (((v_mof2 p0 p1).2 != zz0)=((v_mof2 p0 p1).2 != zz0))) ∧
       (((((v_mof2 p0 p1).2 != zz0)=false) →
       (v_cne p0)) ∧
       (((((v_mof2 p0 p1).2 != zz0)=false) →
       ((zz0≤p1) ∧
        (p1≤9223372036854775807))) ∧
       (((((v_mof2 p0 p1).2 != zz0)=false) →
       (((v_mof2 p0 p1).2 != zz0)=((v_mof2 p0 p1).2 != zz0))) ∧
       (((((v_mof2 p0 p1).2 != zz0)=false) →
       (((v_mof2 p0 p1).2 != zz0)=((v_mof2 p0 p1).2 != zz0))) ∧
       (((((v_mof2 p0 p1).2 != zz0)=false) →
       (lenOk (v_mof2 p0 p1).1)) ∧
       (((((v_mof2 p0 p1).2 != zz0)=false) →
       (((v_mof2 p0 p1).2 != zz0)=((v_mof2 p0 p1).2 != zz0))) ∧
       ((((v_mof2 p0 p1).2 != zz0)=((v_mof2 p0 p1).2 != zz0)) ∧
       ((((cond ((v_mof2 p0 p1).2 != zz0) true (!(decide ((v_mof2 p0 p1).1 = (v_mdl p0 p1)))))=false) →
       ((cond ((v_mof2 p0 p1).2 != zz0) true (!(decide ((v_mof2 p0 p1).1 = (v_mdl p0 p1)))))=(cond ((v_mof2 p0 p1).2 != zz0) true (!(decide ((v_mof2 p0 p1).1 = (v_mdl p0 p1))))))) ∧
       (((cond ((v_mof2 p0 p1).2 != zz0) true (!(decide ((v_mof2 p0 p1).1 = (v_mdl p0 p1)))))=(cond ((v_mof2 p0 p1).2 != zz0) true (!(decide ((v_mof2 p0 p1).1 = (v_mdl p0 p1)))))) ∧
       ((((q3_law04_GroundClasses p0 p1)=false) →
       ((q3_law04_GroundClasses p0 p1)=(q3_law04_GroundClasses p0 p1))) ∧
       ((((q3_law04_GroundClasses p0 p1)=false) →
       ((q3_law04_GroundClasses p0 p1)=(q3_law04_GroundClasses p0 p1))) ∧
       (((q3_law04_GroundClasses p0 p1)=(q3_law04_GroundClasses p0 p1)) ∧
       ((((cond (q3_law04_GroundClasses p0 p1) true ((v_nof p0 (([]:List (Int×Int)) ++ (v_mof2 p0 p1).1)).1 != p1))=true) →
       (K false)) ∧
       (((cond (q3_law04_GroundClasses p0 p1) true ((v_nof p0 (([]:List (Int×Int)) ++ (v_mof2 p0 p1).1)).1 != p1))=false) →
       (((((v_cm p2).2 != zz0)=true) →
        (((((v_nof p0 (([]:List (Int×Int)) ++ p2)).2 == (v_cm p2).2)=true) →
         (q9_law04_GroundClasses p0 p2)) ∧
         ((q9_law04_GroundClasses p0 p2) ∧
         (K (cond ((v_nof p0 (([]:List (Int×Int)) ++ p2)).2 == (v_cm p2).2) ((v_nof p0 (([]:List (Int×Int)) ++ p2)).1 == zz0) false))))) ∧
        ((((v_cm p2).2 != zz0)=false) →
        ((v_cne p0) ∧
         (((v_count p0)≤300) ∧
         ((((decide ((v_findi p2 (v_mdls p0)) < zz0))=true) →
         ((decide ((v_findi p2 (v_mdls p0)) < zz0))=(decide ((v_findi p2 (v_mdls p0)) < zz0)))) ∧
         (((decide ((v_findi p2 (v_mdls p0)) < zz0))=(decide ((v_findi p2 (v_mdls p0)) < zz0))) ∧
         ((((q5_law04_GroundClasses p0 p2)=true) →
         ((q5_law04_GroundClasses p0 p2)=(q5_law04_GroundClasses p0 p2))) ∧
         (((q5_law04_GroundClasses p0 p2)=(q5_law04_GroundClasses p0 p2)) ∧
         ((((q0_law04_GroundClasses p0 p2)=false) →
         (q8_law04_GroundClasses p0 p2)) ∧
         ((((q0_law04_GroundClasses p0 p2)=false) →
         (q8_law04_GroundClasses p0 p2)) ∧
         ((((q6_law04_GroundClasses p0 p2)=true) →
         ((q6_law04_GroundClasses p0 p2)=(q6_law04_GroundClasses p0 p2))) ∧
         ((((q0_law04_GroundClasses p0 p2)=false) →
         (q8_law04_GroundClasses p0 p2)) ∧
         ((((q0_law04_GroundClasses p0 p2)=false) →
         ((q6_law04_GroundClasses p0 p2)=(decide ((v_findi p2 (v_mdls p0)) ≥ zz0)))) ∧
         ((((q0_law04_GroundClasses p0 p2)=false) →
         (q8_law04_GroundClasses p0 p2)) ∧
         ((((q2_law04_GroundClasses p0 p2)=true) →
         ((q2_law04_GroundClasses p0 p2)=(q2_law04_GroundClasses p0 p2))) ∧
         ((((q2_law04_GroundClasses p0 p2)=true) →
         ((q2_law04_GroundClasses p0 p2)=(q2_law04_GroundClasses p0 p2))) ∧
         ((((q0_law04_GroundClasses p0 p2)=false) →
         (q8_law04_GroundClasses p0 p2)) ∧
         ((((q0_law04_GroundClasses p0 p2)=false) →
         ((q2_law04_GroundClasses p0 p2)=(q10_law04_GroundClasses p0 p2))) ∧
         ((q8_law04_GroundClasses p0 p2) ∧
         (K (cond (q0_law04_GroundClasses p0 p2) true (cond (q10_law04_GroundClasses p0 p2) ((v_nof p0 (([]:List (Int×Int)) ++ p2)).1 == (v_findi p2 (v_mdls p0))) false))))))))))))))))))))))))))))))))))))))))))))))))))))))))))))))))))))))))))))))))
set_option maxHeartbeats 4000000 in
theorem w_law04_GroundClasses_eq (p0:(List ((List Int)×(List Int)))) (p1:Int) (p2:(List (Int×Int))) (K:Bool→Prop):tfn F_law04_GroundClasses A_law04_GroundClasses C_law04_GroundClasses P_law04_GroundClasses R_law04_GroundClasses (p0,p1,p2) K = w_law04_GroundClasses p0 p1 p2 K := by kernel_rfl
def s_law04_GroundClasses (p0:(List ((List Int)×(List Int)))) (p1:Int) (p2:(List (Int×Int))):Bool :=
 (cond (cond (!(v_fewb p0)) true (!(decide ((p2.length:Int)≤6)))) true
  (cond (cond ((v_cc p0).2 != (v_cc p0).2) true ((v_cc p0).1 != (v_cc p0).1)) false
  (cond ((v_cc p0).2 != 0) (cond (cond (cond (cond (cond ((v_cof p0).2 == (v_cc p0).2) ((v_cof p0).1 == 0) false) ((v_mof2 p0 p1).2 == (v_cc p0).2) false) ((((v_mof2 p0 p1).1.length:Nat):Int) == 0) false) ((v_nof p0 (([]:List (Int×Int)) ++ p2)).2 == (v_cc p0).2) false) ((v_nof p0 (([]:List (Int×Int)) ++ p2)).1 == 0) false)
  (cond (cond ((v_cof p0).2 != 0) true ((v_cof p0).1 != (v_count p0))) false
  (cond (!(s_base_Within p1 (0:Int) (IntKind.i64.wrap ((v_cof p0).1 - 1)))) (cond (cond ((v_mof2 p0 p1).2 != 6) true ((((v_mof2 p0 p1).1.length:Nat):Int) != 0)) false
  (cond ((v_cm p2).2 != 0) (cond ((v_nof p0 (([]:List (Int×Int)) ++ p2)).2 == (v_cm p2).2) ((v_nof p0 (([]:List (Int×Int)) ++ p2)).1 == 0) false)
  (cond (cond (cond (decide ((v_findi p2 (v_mdls p0)) < 0)) ((v_nof p0 (([]:List (Int×Int)) ++ p2)).2 == 6) false) ((v_nof p0 (([]:List (Int×Int)) ++ p2)).1 == 0) false) true (cond (cond (decide ((v_findi p2 (v_mdls p0)) ≥ 0)) ((v_nof p0 (([]:List (Int×Int)) ++ p2)).2 == 0) false) ((v_nof p0 (([]:List (Int×Int)) ++ p2)).1 == (v_findi p2 (v_mdls p0))) false))))
  (cond (cond (cond (cond ((v_mof2 p0 p1).2 != 0) true (!(decide ((v_mof2 p0 p1).1 = (v_mdl p0 p1))))) true ((v_nof p0 (([]:List (Int×Int)) ++ (v_mof2 p0 p1).1)).2 != 0)) true ((v_nof p0 (([]:List (Int×Int)) ++ (v_mof2 p0 p1).1)).1 != p1)) false
  (cond ((v_cm p2).2 != 0) (cond ((v_nof p0 (([]:List (Int×Int)) ++ p2)).2 == (v_cm p2).2) ((v_nof p0 (([]:List (Int×Int)) ++ p2)).1 == 0) false)
  (cond (cond (cond (decide ((v_findi p2 (v_mdls p0)) < 0)) ((v_nof p0 (([]:List (Int×Int)) ++ p2)).2 == 6) false) ((v_nof p0 (([]:List (Int×Int)) ++ p2)).1 == 0) false) true (cond (cond (decide ((v_findi p2 (v_mdls p0)) ≥ 0)) ((v_nof p0 (([]:List (Int×Int)) ++ p2)).2 == 0) false) ((v_nof p0 (([]:List (Int×Int)) ++ p2)).1 == (v_findi p2 (v_mdls p0))) false)))))))))
abbrev pre_law04_GroundClasses (p0:(List ((List Int)×(List Int)))) (p1:Int) (p2:(List (Int×Int))):List Prop := [(((cond (!(v_fewb p0)) true (!(decide ((p2.length:Int)≤6))))=false)→(p0.length≤6)),
  (((cond (!(v_fewb p0)) true (!(decide ((p2.length:Int)≤6))))=false)→(v_few p0)),
  (((cond (!(v_fewb p0)) true (!(decide ((p2.length:Int)≤6))))=false)→((((List.length ([]:List (Int×Int))) + p2.length) * 16)≤140737488355328)),
  (((cond (!(v_fewb p0)) true (!(decide ((p2.length:Int)≤6))))=false)→(((cond ((v_cc p0).2 != (v_cc p0).2) true ((v_cc p0).1 != (v_cc p0).1))=false)→((((v_cc p0).2 != 0)=false)→((((v_cof p0).2 != 0)=false)→(v_few p0))))),
  (((cond (!(v_fewb p0)) true (!(decide ((p2.length:Int)≤6))))=false)→(((cond ((v_cc p0).2 != (v_cc p0).2) true ((v_cc p0).1 != (v_cc p0).1))=false)→((((v_cc p0).2 != 0)=false)→((((v_cof p0).2 != 0)=false)→(p0.length≤4))))),
  (((cond (!(v_fewb p0)) true (!(decide ((p2.length:Int)≤6))))=false)→(((cond ((v_cc p0).2 != (v_cc p0).2) true ((v_cc p0).1 != (v_cc p0).1))=false)→((((v_cc p0).2 != 0)=false)→(((cond ((v_cof p0).2 != 0) true ((v_cof p0).1 != (v_count p0)))=false)→(((!(s_base_Within p1 (0:Int) (IntKind.i64.wrap ((v_cof p0).1 - 1))))=true)→(((cond ((v_mof2 p0 p1).2 != 6) true ((((v_mof2 p0 p1).1.length:Nat):Int) != 0))=false)→((((v_cm p2).2 != 0)=false)→(v_cne p0)))))))),
  (((cond (!(v_fewb p0)) true (!(decide ((p2.length:Int)≤6))))=false)→(((cond ((v_cc p0).2 != (v_cc p0).2) true ((v_cc p0).1 != (v_cc p0).1))=false)→((((v_cc p0).2 != 0)=false)→(((cond ((v_cof p0).2 != 0) true ((v_cof p0).1 != (v_count p0)))=false)→(((!(s_base_Within p1 (0:Int) (IntKind.i64.wrap ((v_cof p0).1 - 1))))=true)→(((cond ((v_mof2 p0 p1).2 != 6) true ((((v_mof2 p0 p1).1.length:Nat):Int) != 0))=false)→((((v_cm p2).2 != 0)=false)→((v_count p0)≤300)))))))),
  (((cond (!(v_fewb p0)) true (!(decide ((p2.length:Int)≤6))))=false)→(((cond ((v_cc p0).2 != (v_cc p0).2) true ((v_cc p0).1 != (v_cc p0).1))=false)→((((v_cc p0).2 != 0)=false)→(((cond ((v_cof p0).2 != 0) true ((v_cof p0).1 != (v_count p0)))=false)→(((!(s_base_Within p1 (0:Int) (IntKind.i64.wrap ((v_cof p0).1 - 1))))=true)→(((cond ((v_mof2 p0 p1).2 != 6) true ((((v_mof2 p0 p1).1.length:Nat):Int) != 0))=false)→((((v_cm p2).2 != 0)=false)→(((cond (cond (decide ((v_findi p2 (v_mdls p0)) < 0)) ((v_nof p0 (([]:List (Int×Int)) ++ p2)).2 == 6) false) ((v_nof p0 (([]:List (Int×Int)) ++ p2)).1 == 0) false)=false)→(((!(cond (cond (decide ((v_findi p2 (v_mdls p0)) < 0)) ((v_nof p0 (([]:List (Int×Int)) ++ p2)).2 == 6) false) ((v_nof p0 (([]:List (Int×Int)) ++ p2)).1 == 0) false)) && (decide ((v_findi p2 (v_mdls p0)) ≥ 0)))=(decide ((v_findi p2 (v_mdls p0)) ≥ 0))))))))))),
  (((cond (!(v_fewb p0)) true (!(decide ((p2.length:Int)≤6))))=false)→(((cond ((v_cc p0).2 != (v_cc p0).2) true ((v_cc p0).1 != (v_cc p0).1))=false)→((((v_cc p0).2 != 0)=false)→(((cond ((v_cof p0).2 != 0) true ((v_cof p0).1 != (v_count p0)))=false)→(((!(s_base_Within p1 (0:Int) (IntKind.i64.wrap ((v_cof p0).1 - 1))))=true)→(((cond ((v_mof2 p0 p1).2 != 6) true ((((v_mof2 p0 p1).1.length:Nat):Int) != 0))=false)→((((v_cm p2).2 != 0)=false)→(((cond (cond (decide ((v_findi p2 (v_mdls p0)) < 0)) ((v_nof p0 (([]:List (Int×Int)) ++ p2)).2 == 6) false) ((v_nof p0 (([]:List (Int×Int)) ++ p2)).1 == 0) false)=false)→(((!(cond (cond (decide ((v_findi p2 (v_mdls p0)) < 0)) ((v_nof p0 (([]:List (Int×Int)) ++ p2)).2 == 6) false) ((v_nof p0 (([]:List (Int×Int)) ++ p2)).1 == 0) false)) && (cond (decide ((v_findi p2 (v_mdls p0)) ≥ 0)) ((v_nof p0 (([]:List (Int×Int)) ++ p2)).2 == 0) false))=(cond (decide ((v_findi p2 (v_mdls p0)) ≥ 0)) ((v_nof p0 (([]:List (Int×Int)) ++ p2)).2 == 0) false)))))))))),
  (((cond (!(v_fewb p0)) true (!(decide ((p2.length:Int)≤6))))=false)→(((cond ((v_cc p0).2 != (v_cc p0).2) true ((v_cc p0).1 != (v_cc p0).1))=false)→((((v_cc p0).2 != 0)=false)→(((cond ((v_cof p0).2 != 0) true ((v_cof p0).1 != (v_count p0)))=false)→(((!(s_base_Within p1 (0:Int) (IntKind.i64.wrap ((v_cof p0).1 - 1))))=false)→(p0.length≤6)))))),
  (((cond (!(v_fewb p0)) true (!(decide ((p2.length:Int)≤6))))=false)→(((cond ((v_cc p0).2 != (v_cc p0).2) true ((v_cc p0).1 != (v_cc p0).1))=false)→((((v_cc p0).2 != 0)=false)→(((cond ((v_cof p0).2 != 0) true ((v_cof p0).1 != (v_count p0)))=false)→(((!(s_base_Within p1 (0:Int) (IntKind.i64.wrap ((v_cof p0).1 - 1))))=false)→(v_few p0)))))),
  (((cond (!(v_fewb p0)) true (!(decide ((p2.length:Int)≤6))))=false)→(((cond ((v_cc p0).2 != (v_cc p0).2) true ((v_cc p0).1 != (v_cc p0).1))=false)→((((v_cc p0).2 != 0)=false)→(((cond ((v_cof p0).2 != 0) true ((v_cof p0).1 != (v_count p0)))=false)→(((!(s_base_Within p1 (0:Int) (IntKind.i64.wrap ((v_cof p0).1 - 1))))=false)→((((List.length ([]:List (Int×Int))) + (List.length (v_mof2 p0 p1).1)) * 16)≤140737488355328)))))),
  (((cond (!(v_fewb p0)) true (!(decide ((p2.length:Int)≤6))))=false)→(((cond ((v_cc p0).2 != (v_cc p0).2) true ((v_cc p0).1 != (v_cc p0).1))=false)→((((v_cc p0).2 != 0)=false)→(((cond ((v_cof p0).2 != 0) true ((v_cof p0).1 != (v_count p0)))=false)→(((!(s_base_Within p1 (0:Int) (IntKind.i64.wrap ((v_cof p0).1 - 1))))=false)→((((v_mof2 p0 p1).2 != 0)=false)→(v_cne p0))))))),
  (((cond (!(v_fewb p0)) true (!(decide ((p2.length:Int)≤6))))=false)→(((cond ((v_cc p0).2 != (v_cc p0).2) true ((v_cc p0).1 != (v_cc p0).1))=false)→((((v_cc p0).2 != 0)=false)→(((cond ((v_cof p0).2 != 0) true ((v_cof p0).1 != (v_count p0)))=false)→(((!(s_base_Within p1 (0:Int) (IntKind.i64.wrap ((v_cof p0).1 - 1))))=false)→((((v_mof2 p0 p1).2 != 0)=false)→(((0:Int)≤p1)∧(p1≤9223372036854775807)))))))),
  (((cond (!(v_fewb p0)) true (!(decide ((p2.length:Int)≤6))))=false)→(((cond ((v_cc p0).2 != (v_cc p0).2) true ((v_cc p0).1 != (v_cc p0).1))=false)→((((v_cc p0).2 != 0)=false)→(((cond ((v_cof p0).2 != 0) true ((v_cof p0).1 != (v_count p0)))=false)→(((!(s_base_Within p1 (0:Int) (IntKind.i64.wrap ((v_cof p0).1 - 1))))=false)→((((v_mof2 p0 p1).2 != 0)=false)→(lenOk (v_mof2 p0 p1).1))))))),
  (((cond (!(v_fewb p0)) true (!(decide ((p2.length:Int)≤6))))=false)→(((cond ((v_cc p0).2 != (v_cc p0).2) true ((v_cc p0).1 != (v_cc p0).1))=false)→((((v_cc p0).2 != 0)=false)→(((cond ((v_cof p0).2 != 0) true ((v_cof p0).1 != (v_count p0)))=false)→(((!(s_base_Within p1 (0:Int) (IntKind.i64.wrap ((v_cof p0).1 - 1))))=false)→(((cond (cond (cond ((v_mof2 p0 p1).2 != 0) true (!(decide ((v_mof2 p0 p1).1 = (v_mdl p0 p1))))) true ((v_nof p0 (([]:List (Int×Int)) ++ (v_mof2 p0 p1).1)).2 != 0)) true ((v_nof p0 (([]:List (Int×Int)) ++ (v_mof2 p0 p1).1)).1 != p1))=false)→((((v_cm p2).2 != 0)=false)→(v_cne p0)))))))),
  (((cond (!(v_fewb p0)) true (!(decide ((p2.length:Int)≤6))))=false)→(((cond ((v_cc p0).2 != (v_cc p0).2) true ((v_cc p0).1 != (v_cc p0).1))=false)→((((v_cc p0).2 != 0)=false)→(((cond ((v_cof p0).2 != 0) true ((v_cof p0).1 != (v_count p0)))=false)→(((!(s_base_Within p1 (0:Int) (IntKind.i64.wrap ((v_cof p0).1 - 1))))=false)→(((cond (cond (cond ((v_mof2 p0 p1).2 != 0) true (!(decide ((v_mof2 p0 p1).1 = (v_mdl p0 p1))))) true ((v_nof p0 (([]:List (Int×Int)) ++ (v_mof2 p0 p1).1)).2 != 0)) true ((v_nof p0 (([]:List (Int×Int)) ++ (v_mof2 p0 p1).1)).1 != p1))=false)→((((v_cm p2).2 != 0)=false)→((v_count p0)≤300)))))))),
  (((cond (!(v_fewb p0)) true (!(decide ((p2.length:Int)≤6))))=false)→(((cond ((v_cc p0).2 != (v_cc p0).2) true ((v_cc p0).1 != (v_cc p0).1))=false)→((((v_cc p0).2 != 0)=false)→(((cond ((v_cof p0).2 != 0) true ((v_cof p0).1 != (v_count p0)))=false)→(((!(s_base_Within p1 (0:Int) (IntKind.i64.wrap ((v_cof p0).1 - 1))))=false)→(((cond (cond (cond ((v_mof2 p0 p1).2 != 0) true (!(decide ((v_mof2 p0 p1).1 = (v_mdl p0 p1))))) true ((v_nof p0 (([]:List (Int×Int)) ++ (v_mof2 p0 p1).1)).2 != 0)) true ((v_nof p0 (([]:List (Int×Int)) ++ (v_mof2 p0 p1).1)).1 != p1))=false)→((((v_cm p2).2 != 0)=false)→(((cond (cond (decide ((v_findi p2 (v_mdls p0)) < 0)) ((v_nof p0 (([]:List (Int×Int)) ++ p2)).2 == 6) false) ((v_nof p0 (([]:List (Int×Int)) ++ p2)).1 == 0) false)=false)→(((!(cond (cond (decide ((v_findi p2 (v_mdls p0)) < 0)) ((v_nof p0 (([]:List (Int×Int)) ++ p2)).2 == 6) false) ((v_nof p0 (([]:List (Int×Int)) ++ p2)).1 == 0) false)) && (decide ((v_findi p2 (v_mdls p0)) ≥ 0)))=(decide ((v_findi p2 (v_mdls p0)) ≥ 0))))))))))),
  (((cond (!(v_fewb p0)) true (!(decide ((p2.length:Int)≤6))))=false)→(((cond ((v_cc p0).2 != (v_cc p0).2) true ((v_cc p0).1 != (v_cc p0).1))=false)→((((v_cc p0).2 != 0)=false)→(((cond ((v_cof p0).2 != 0) true ((v_cof p0).1 != (v_count p0)))=false)→(((!(s_base_Within p1 (0:Int) (IntKind.i64.wrap ((v_cof p0).1 - 1))))=false)→(((cond (cond (cond ((v_mof2 p0 p1).2 != 0) true (!(decide ((v_mof2 p0 p1).1 = (v_mdl p0 p1))))) true ((v_nof p0 (([]:List (Int×Int)) ++ (v_mof2 p0 p1).1)).2 != 0)) true ((v_nof p0 (([]:List (Int×Int)) ++ (v_mof2 p0 p1).1)).1 != p1))=false)→((((v_cm p2).2 != 0)=false)→(((cond (cond (decide ((v_findi p2 (v_mdls p0)) < 0)) ((v_nof p0 (([]:List (Int×Int)) ++ p2)).2 == 6) false) ((v_nof p0 (([]:List (Int×Int)) ++ p2)).1 == 0) false)=false)→(((!(cond (cond (decide ((v_findi p2 (v_mdls p0)) < 0)) ((v_nof p0 (([]:List (Int×Int)) ++ p2)).2 == 6) false) ((v_nof p0 (([]:List (Int×Int)) ++ p2)).1 == 0) false)) && (cond (decide ((v_findi p2 (v_mdls p0)) ≥ 0)) ((v_nof p0 (([]:List (Int×Int)) ++ p2)).2 == 0) false))=(cond (decide ((v_findi p2 (v_mdls p0)) ≥ 0)) ((v_nof p0 (([]:List (Int×Int)) ++ p2)).2 == 0) false))))))))))]
set_option maxHeartbeats 4000000 in
theorem d_law04_GroundClasses (p0:(List ((List Int)×(List Int)))) (p1:Int) (p2:(List (Int×Int))) (K:Bool→Prop) (hp:∀ p∈pre_law04_GroundClasses p0 p1 p2,p) (h:K (s_law04_GroundClasses p0 p1 p2)):w_law04_GroundClasses p0 p1 p2 K := by
 unfold w_law04_GroundClasses
 unfold s_law04_GroundClasses at h
 obtain ⟨hp0,hp1,hp2,hp3,hp4,hp5,hp6,hp7,hp8,hp9,hp10,hp11,hp12,hp13,hp14,hp15,hp16,hp17,hp18,_⟩ := conj_of hp
 exact ⟨nof,fun _ => ⟨rf,rf,rfl,(br' h (fun e0 h => h)
  (fun e0 h => ⟨(hp0 e0),(hp1 e0),(hp1 e0),(hp0 e0),(hp1 e0),(hp1 e0),(hp0 e0),(hp1 e0),(hp1 e0),(hp0 e0),(hp1 e0),(hp2 e0),(hp1 e0),(hp1 e0),rf,rf,rfl,(br' h (fun e1 h => h)
  (fun e1 h => (br' h (fun e2 h => ⟨rf,rfl,rf,rf,rfl,rf,rf,rf,rfl,rf,rf,rfl,rf,rfl,h⟩)
  (fun e2 h => ⟨rf,(hp3 e0 e1 e2),(hp4 e0 e1 e2),rf,rf,rfl,(br' h (fun e3 h => h)
  (fun e3 h => (br' h (fun e4 h => ⟨rf,rf,rf,rfl,(br' h (fun e5 h => h)
  (fun e5 h => (br' h (fun e6 h => ⟨rf,rfl,h⟩)
  (fun e6 h => ⟨(hp5 e0 e1 e2 e3 e4 e5 e6),(hp6 e0 e1 e2 e3 e4 e5 e6),rf,rfl,rf,rfl,rf,rf,rf,rf,(hp7 e0 e1 e2 e3 e4 e5 e6),rf,rf,rf,rf,(hp8 e0 e1 e2 e3 e4 e5 e6),rfl,h⟩))))⟩)
  (fun e4 h => ⟨(hp9 e0 e1 e2 e3 e4),(hp10 e0 e1 e2 e3 e4),(hp11 e0 e1 e2 e3 e4),(hp10 e0 e1 e2 e3 e4),rf,rf,(hp12 e0 e1 e2 e3 e4),(hp13 e0 e1 e2 e3 e4),rf,rf,(hp14 e0 e1 e2 e3 e4),rf,rfl,rf,rfl,rf,rf,rfl,(br' h (fun e7 h => h)
  (fun e7 h => (br' h (fun e8 h => ⟨rf,rfl,h⟩)
  (fun e8 h => ⟨(hp15 e0 e1 e2 e3 e4 e7 e8),(hp16 e0 e1 e2 e3 e4 e7 e8),rf,rfl,rf,rfl,rf,rf,rf,rf,(hp17 e0 e1 e2 e3 e4 e7 e8),rf,rf,rf,rf,(hp18 e0 e1 e2 e3 e4 e7 e8),rfl,h⟩))))⟩))))⟩))))⟩))⟩⟩
abbrev con_law04_GroundClasses:Con := ⟨P_law04_GroundClasses,R_law04_GroundClasses,fun x => pre_law04_GroundClasses x.1 x.2.1 x.2.2,fun x => s_law04_GroundClasses x.1 x.2.1 x.2.2⟩
theorem ok_law04_GroundClasses:ConOk Try.prog 5 con_law04_GroundClasses := ⟨k_law04_GroundClasses,fun x hx => ret_tf (ps := P_law04_GroundClasses) (rs := R_law04_GroundClasses) (x := x) (y := s_law04_GroundClasses x.1 x.2.1 x.2.2) e_law04_GroundClasses hC_law04_GroundClasses (tf_of (w_law04_GroundClasses_eq x.1 x.2.1 x.2.2 (fun z => z = s_law04_GroundClasses x.1 x.2.1 x.2.2)) (d_law04_GroundClasses x.1 x.2.1 x.2.2 (fun z => z = s_law04_GroundClasses x.1 x.2.1 x.2.2) hx rfl))⟩
end Go.Proofs.Ytehblgccaiiikaa
