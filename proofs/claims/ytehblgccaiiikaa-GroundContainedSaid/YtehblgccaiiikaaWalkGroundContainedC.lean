/- What the functions that GroundContained reaches compute: contracts, each function once. No condition. -/
import Derived.Test.YtehblgccaiiikaaWalkGroundContainedB
import Derived.KernelRfl
namespace Go.Proofs.Ytehblgccaiiikaa
open Go Go.Mx
set_option maxRecDepth 100000
/- ref04_CheckClass -/
def C_ref04_CheckClass:Cons := [(99,[],con_ref04_choiceErr),(58,[],con_base_Ints)]
theorem hC_ref04_CheckClass:ConsOk Try.prog C_ref04_CheckClass := ConsOk.cons ok_ref04_choiceErr <| ConsOk.cons ok_base_Ints <| ConsOk.nil
abbrev q1_ref04_CheckClass (p0:(List ((List Int)×(List Int)))) (y1:(Int×Int)) := (p0.getD y1.1.toNat (([]:List Int),([]:List Int)))
abbrev q0_ref04_CheckClass (p0:(List ((List Int)×(List Int)))) (y1:(Int×Int)) := ((((q1_ref04_CheckClass p0 y1).1.length:Nat):Int) == zz0)
def w_ref04_CheckClass (p0:(List ((List Int)×(List Int)))) (K:(Int×Int)→Prop):Prop :=
  (((((p0.length:Int) == zz0)=true) →
 (K (zz0,(10:Int)))) ∧
 ((((p0.length:Int) == zz0)=false) →
 ((((decide ((p0.length:Int) > 4))=true) →
  (K (zz0,(8:Int)))) ∧
  (((decide ((p0.length:Int) > 4))=false) →
  (∃ n0,(loopP (fun (y1:(Int×Int)) k2 =>
    ((((decide (y1.1 < (p0.length:Int)))=true) →
    ((zz0≤y1.1) ∧
     ((y1.1 < (p0.length:Int)) ∧
     ((((q0_ref04_CheckClass p0 y1)=false) →
     ((q0_ref04_CheckClass p0 y1)=(q0_ref04_CheckClass p0 y1))) ∧
     ((((q0_ref04_CheckClass p0 y1)=false) →
     ((q0_ref04_CheckClass p0 y1)=(q0_ref04_CheckClass p0 y1))) ∧
     ((((q0_ref04_CheckClass p0 y1)=false) →
     ((q0_ref04_CheckClass p0 y1)=(q0_ref04_CheckClass p0 y1))) ∧
     (((q0_ref04_CheckClass p0 y1)=(q0_ref04_CheckClass p0 y1)) ∧
     ((((cond (q0_ref04_CheckClass p0 y1) true ((((q1_ref04_CheckClass p0 y1).2.length:Nat):Int) == zz0))=true) →
     (K (y1.1,(10:Int)))) ∧
     (((cond (q0_ref04_CheckClass p0 y1) true ((((q1_ref04_CheckClass p0 y1).2.length:Nat):Int) == zz0))=false) →
     ((lenOk (q1_ref04_CheckClass p0 y1).1) ∧
      (((((v_ls zz1 (20:Int) (q1_ref04_CheckClass p0 y1).1) != zz0)=true) →
      (K (y1.1,(v_ls zz1 (20:Int) (q1_ref04_CheckClass p0 y1).1)))) ∧
      ((((v_ls zz1 (20:Int) (q1_ref04_CheckClass p0 y1).1) != zz0)=false) →
      ((lenOk (q1_ref04_CheckClass p0 y1).2) ∧
       (((((v_ls zz0 (10:Int) (q1_ref04_CheckClass p0 y1).2) != zz0)=true) →
       (K (y1.1,(v_ls zz0 (10:Int) (q1_ref04_CheckClass p0 y1).2)))) ∧
       ((((v_ls zz0 (10:Int) (q1_ref04_CheckClass p0 y1).2) != zz0)=false) →
       ((((y1.1 == (wi ((p0.length:Int) - zz1)))=true) →
        ((y1.1 == (wi ((p0.length:Int) - zz1)))=(y1.1 == (wi ((p0.length:Int) - zz1))))) ∧
        ((((y1.1 == (wi ((p0.length:Int) - zz1)))=true) →
        ((y1.1 == (wi ((p0.length:Int) - zz1)))=(y1.1 == (wi ((p0.length:Int) - zz1))))) ∧
        ((((y1.1 == (wi ((p0.length:Int) - zz1)))=true) →
        ((y1.1 == (wi ((p0.length:Int) - zz1)))=(y1.1 == (wi ((p0.length:Int) - zz1))))) ∧
        ((((y1.1 == (wi ((p0.length:Int) - zz1)))=true) →
        (lenOk (q1_ref04_CheckClass p0 y1).2)) ∧
        ((((y1.1 == (wi ((p0.length:Int) - zz1)))=true) →
        ((y1.1 == (wi ((p0.length:Int) - zz1)))=(y1.1 == (wi ((p0.length:Int) - zz1))))) ∧
        (((y1.1 == (wi ((p0.length:Int) - zz1)))=(y1.1 == (wi ((p0.length:Int) - zz1)))) ∧
        ((((cond (y1.1 == (wi ((p0.length:Int) - zz1))) (!(decide ((q1_ref04_CheckClass p0 y1).2 = (zz0 :: ([]:List Int))))) false)=true) →
        (K (y1.1,zz3))) ∧
        (((cond (y1.1 == (wi ((p0.length:Int) - zz1))) (!(decide ((q1_ref04_CheckClass p0 y1).2 = (zz0 :: ([]:List Int))))) false)=false) →
        (k2 ((wi (y1.1 + zz1)),(wi ((wi (y1.2 * (((q1_ref04_CheckClass p0 y1).1.length:Nat):Int))) * (((q1_ref04_CheckClass p0 y1).2.length:Nat):Int)))))))))))))))))))))))))))) ∧
    (((decide (y1.1 < (p0.length:Int)))=false) →
    ((((decide (y1.2 > 300))=true) →
     (K (zz0,(16:Int)))) ∧
     (((decide (y1.2 > 300))=false) →
     (K (zz0,zz0))))))) n0 (zz0,zz1)))))))
set_option maxHeartbeats 4000000 in
theorem w_ref04_CheckClass_eq (p0:(List ((List Int)×(List Int)))) (K:(Int×Int)→Prop):tfn F_ref04_CheckClass A_ref04_CheckClass C_ref04_CheckClass P_ref04_CheckClass R_ref04_CheckClass p0 K = w_ref04_CheckClass p0 K := by kernel_rfl
def st_ref04_CheckClass_0 (p0:(List ((List Int)×(List Int)))) (y2:(Int×Int)):(Int×Int) ⊕ (Int×Int) :=
 (cond (decide (y2.1 < (p0.length:Int))) (cond (cond ((((List.length (p0.getD y2.1.toNat (([]:List Int),([]:List Int))).1):Nat):Int) == 0) true ((((List.length (p0.getD y2.1.toNat (([]:List Int),([]:List Int))).2):Nat):Int) == 0)) (Sum.inr (y2.1,(10:Int)))
  (cond ((v_ls (1:Int) (20:Int) (p0.getD y2.1.toNat (([]:List Int),([]:List Int))).1) != 0) (Sum.inr (y2.1,(v_ls (1:Int) (20:Int) (p0.getD y2.1.toNat (([]:List Int),([]:List Int))).1)))
  (cond ((v_ls (0:Int) (10:Int) (p0.getD y2.1.toNat (([]:List Int),([]:List Int))).2) != 0) (Sum.inr (y2.1,(v_ls (0:Int) (10:Int) (p0.getD y2.1.toNat (([]:List Int),([]:List Int))).2)))
  (cond (cond (y2.1 == (IntKind.i64.wrap ((p0.length:Int) - 1))) (!(decide ((p0.getD y2.1.toNat (([]:List Int),([]:List Int))).2 = ((0:Int) :: ([]:List Int))))) false) (Sum.inr (y2.1,(3:Int)))
  (Sum.inl ((IntKind.i64.wrap (y2.1 + 1)),(IntKind.i64.wrap ((IntKind.i64.wrap (y2.2 * (((List.length (p0.getD y2.1.toNat (([]:List Int),([]:List Int))).1):Nat):Int))) * (((List.length (p0.getD y2.1.toNat (([]:List Int),([]:List Int))).2):Nat):Int)))))))))
  (cond (decide (y2.2 > 300)) (Sum.inr ((0:Int),(16:Int)))
  (Sum.inr ((0:Int),(0:Int)))))
abbrev sp_ref04_CheckClass_0 (p0:(List ((List Int)×(List Int)))) (y2:(Int×Int)):List Prop := [(((decide (y2.1 < (p0.length:Int)))=true)→((0:Int)≤y2.1)),
  (((decide (y2.1 < (p0.length:Int)))=true)→(y2.1 < (p0.length:Int))),
  (((decide (y2.1 < (p0.length:Int)))=true)→(((cond ((((List.length (p0.getD y2.1.toNat (([]:List Int),([]:List Int))).1):Nat):Int) == 0) true ((((List.length (p0.getD y2.1.toNat (([]:List Int),([]:List Int))).2):Nat):Int) == 0))=false)→(lenOk (p0.getD y2.1.toNat (([]:List Int),([]:List Int))).1))),
  (((decide (y2.1 < (p0.length:Int)))=true)→(((cond ((((List.length (p0.getD y2.1.toNat (([]:List Int),([]:List Int))).1):Nat):Int) == 0) true ((((List.length (p0.getD y2.1.toNat (([]:List Int),([]:List Int))).2):Nat):Int) == 0))=false)→((((v_ls (1:Int) (20:Int) (p0.getD y2.1.toNat (([]:List Int),([]:List Int))).1) != 0)=false)→(lenOk (p0.getD y2.1.toNat (([]:List Int),([]:List Int))).2)))),
  (((decide (y2.1 < (p0.length:Int)))=true)→(((cond ((((List.length (p0.getD y2.1.toNat (([]:List Int),([]:List Int))).1):Nat):Int) == 0) true ((((List.length (p0.getD y2.1.toNat (([]:List Int),([]:List Int))).2):Nat):Int) == 0))=false)→((((v_ls (1:Int) (20:Int) (p0.getD y2.1.toNat (([]:List Int),([]:List Int))).1) != 0)=false)→((((v_ls (0:Int) (10:Int) (p0.getD y2.1.toNat (([]:List Int),([]:List Int))).2) != 0)=false)→(((y2.1 == (IntKind.i64.wrap ((p0.length:Int) - 1)))=true)→(lenOk (p0.getD y2.1.toNat (([]:List Int),([]:List Int))).2))))))]
def s_ref04_CheckClass (p0:(List ((List Int)×(List Int)))):(Int×Int) :=
 (cond ((p0.length:Int) == 0) ((0:Int),(10:Int))
  (cond (decide ((p0.length:Int) > 4)) ((0:Int),(8:Int))
  (lpv ((0:Int),(0:Int)) (st_ref04_CheckClass_0 p0) ((0:Int),(1:Int)))))
abbrev pre_ref04_CheckClass (p0:(List ((List Int)×(List Int)))):List Prop := [((((p0.length:Int) == 0)=false)→(((decide ((p0.length:Int) > 4))=false)→(OkL (st_ref04_CheckClass_0 p0) (sp_ref04_CheckClass_0 p0) ((0:Int),(1:Int)))))]
set_option maxHeartbeats 4000000 in
theorem d_ref04_CheckClass (p0:(List ((List Int)×(List Int)))) (K:(Int×Int)→Prop) (hp:∀ p∈pre_ref04_CheckClass p0,p) (h:K (s_ref04_CheckClass p0)):w_ref04_CheckClass p0 K := by
 unfold w_ref04_CheckClass
 unfold s_ref04_CheckClass at h
 obtain ⟨hp0,_⟩ := conj_of hp
 exact (br' h (fun e0 h => h)
  (fun e0 h => (br' h (fun e1 h => h)
  (fun e1 h => (loop_gen (hp0 e0 e1) h (fun y2 k2 hp h => by
 unfold st_ref04_CheckClass_0 at h; obtain ⟨hp0,hp1,hp2,hp3,hp4,_⟩ := conj_of hp
 exact (br' h (fun e3 h => ⟨(hp0 e3),(hp1 e3),rf,rf,rf,rfl,(br' h (fun e4 h => h)
  (fun e4 h => ⟨(hp2 e3 e4),(br' h (fun e5 h => h)
  (fun e5 h => ⟨(hp3 e3 e4 e5),(br' h (fun e6 h => h)
  (fun e6 h => ⟨rf,rf,rf,(hp4 e3 e4 e5 e6),rf,rfl,(br' h (fun e7 h => h)
  (fun e7 h => h))⟩))⟩))⟩))⟩)
  (fun e3 h => (br' h (fun e8 h => h)
  (fun e8 h => h))))))))))
theorem l_ref04_CheckClass_0 (p0:List (List Int×List Int)) (hl:p0.length≤4) (hf:v_few p0):OkL (st_ref04_CheckClass_0 p0) (sp_ref04_CheckClass_0 p0) (0,1)∧lpv (0,0) (st_ref04_CheckClass_0 p0) (0,1)=v_ccs p0.length 0 1 p0 := by
 refine @for_is Int (Int×Int) (Int×Int) (0,0) (st_ref04_CheckClass_0 p0) (sp_ref04_CheckClass_0 p0) (fun i t => (i,t)) 0 p0.length (fun j t => 0≤t∧t≤484 ^ j) (fun j t => v_ccs p0.length j t (p0.drop j)) (by omega) (by omega) ?_ ?_ 1 ⟨by decide,by decide⟩
 ·intro t _
  simp only [sp_ref04_CheckClass_0,st_ref04_CheckClass_0,List.forall_mem_cons,show decide ((p0.length:Int) < (p0.length:Int))=false from decide_eq_false (by omega),cond_false,List.drop_length,v_ccs]
  refine ⟨?_,?_⟩
  ·and_intros
   all_goals first
    | (intro h; cases h; done)
    | (intro p hp; cases hp)
  ·rcases Decidable.em (t≤300) with c | c
   ·rw [decide_eq_true c,decide_eq_false (show ¬ t > 300 by omega)]; rfl
   ·rw [decide_eq_false c,decide_eq_true (show t > 300 by omega)]; rfl
 ·intro j t _ hj ht
  have hd1:decide ((j:Int) < (p0.length:Int))=true := decide_eq_true (by omega)
  have hw1:IntKind.i64.wrap ((j:Int) + 1)=((j + 1:Nat):Int) := wrap_id (by omega) (by omega)
  have hw2:IntKind.i64.wrap ((p0.length:Int) - 1)=(p0.length:Int) - 1 := wrap_id (by omega) (by omega)
  rw [drop_getD ([],[]) hj]
  have hx := hf.len _ (v_getD_mem (d := ([],[])) hj)
  simp only [sp_ref04_CheckClass_0,st_ref04_CheckClass_0,List.forall_mem_cons,hd1,cond_true,cond_false,Int.toNat_natCast,hw1,hw2]
  obtain ⟨b1,b2,b3,b4,b5⟩ := v_cb (j := j) (by omega) ht (a := ((p0.getD j ([],[])).1.length:Int)) (b := ((p0.getD j ([],[])).2.length:Int)) (by omega) (by omega)
  have w1:IntKind.i64.wrap (((p0.getD j ([],[])).1.length:Int) * ((p0.getD j ([],[])).2.length:Int))=((p0.getD j ([],[])).1.length:Int) * ((p0.getD j ([],[])).2.length:Int) := wrap_id (by omega) (by omega)
  have w2:IntKind.i64.wrap (t * (((p0.getD j ([],[])).1.length:Int) * ((p0.getD j ([],[])).2.length:Int)))=t * (((p0.getD j ([],[])).1.length:Int) * ((p0.getD j ([],[])).2.length:Int)) := wrap_id (by omega) (by omega)
  have w3:IntKind.i64.wrap (t * ((p0.getD j ([],[])).1.length:Int))=t * ((p0.getD j ([],[])).1.length:Int) := wrap_id (by omega) (by omega)
  have k1:lenOk (p0.getD j ([],[])).1 := lenOk_le hx.1 (by decide)
  have k2:lenOk (p0.getD j ([],[])).2 := lenOk_le hx.2 (by decide)
  refine ⟨?_,?_⟩
  ·and_intros
   all_goals first
    | (intro p hp; cases hp; done)
    | (intros; assumption)
    | (intros; omega)
  ·have ea:(((p0.getD j ([],[])).1.length:Int) == 0) = !decide (((p0.getD j ([],[])).1.length:Int) > 0) := by
    rcases Decidable.em (((p0.getD j ([],[])).1.length:Int) > 0) with c | c
    ·rw [decide_eq_true c,beq_eq_false_iff_ne.2 (by omega)]; rfl
    ·rw [decide_eq_false c,beq_iff_eq.2 (by omega)]; rfl
   have eb:(((p0.getD j ([],[])).2.length:Int) == 0) = !decide (((p0.getD j ([],[])).2.length:Int) > 0) := by
    rcases Decidable.em (((p0.getD j ([],[])).2.length:Int) > 0) with c | c
    ·rw [decide_eq_true c,beq_eq_false_iff_ne.2 (by omega)]; rfl
    ·rw [decide_eq_false c,beq_iff_eq.2 (by omega)]; rfl
   rw [show v_ccs p0.length j t ((p0.getD j ([],[])) :: p0.drop (j + 1))=cond (v_cle p0.length j (p0.getD j ([],[])) != 0) (↑j,v_cle p0.length j (p0.getD j ([],[]))) (v_ccs p0.length ((j:Int) + 1) (t * (((p0.getD j ([],[])).1.length:Int) * ((p0.getD j ([],[])).2.length:Int))) (p0.drop (j + 1))) from rfl]
   unfold v_cle
   rw [ea,eb,w3,b5]
   cases decide (((p0.getD j ([],[])).1.length:Int) > 0)
   ·right; rfl
   cases decide (((p0.getD j ([],[])).2.length:Int) > 0)
   ·right; rfl
   simp only [Bool.not_true,cond_true,cond_false]
   rcases int0 (v_ls 1 20 (p0.getD j ([],[])).1) with ⟨_,e1,_⟩ | ⟨_,e1,_⟩
   rotate_left
   ·right; simp only [e1,cond_true]
   simp only [e1,cond_false]
   rcases int0 (v_ls 0 10 (p0.getD j ([],[])).2) with ⟨_,e2,_⟩ | ⟨_,e2,_⟩
   rotate_left
   ·right; simp only [e2,cond_true]
   simp only [e2,cond_false]
   have hin:cond ((j:Int) == (p0.length:Int) - 1) (!(decide ((p0.getD j ([],[])).2 = [0]))) false = !(cond (!((j:Int) == (p0.length:Int) - 1)) true (decide ((p0.getD j ([],[])).2 = [0]))) := by
    cases ((j:Int) == (p0.length:Int) - 1) <;> cases decide ((p0.getD j ([],[])).2 = [0]) <;> rfl
   rw [hin]
   cases cond (!((j:Int) == (p0.length:Int) - 1)) true (decide ((p0.getD j ([],[])).2 = [0]))
   ·right; rfl
   ·left
    refine ⟨_,?_,⟨b3.1,b4⟩,?_⟩
    ·show Sum.inl _ = Sum.inl _
     rw [wrap_id (n := t * (((p0.getD j ([],[])).1.length:Int) * ((p0.getD j ([],[])).2.length:Int))) (by omega) (by omega)]
    ·rw [show ((j + 1:Nat):Int)=(j:Int) + 1 by omega]; rfl
abbrev t_ref04_CheckClass (p0:List (List Int×List Int)):Int×Int := v_cc p0
abbrev qre_ref04_CheckClass (p0:List (List Int×List Int)):List Prop := [v_few p0]
theorem pp_ref04_CheckClass (p0:List (List Int×List Int)) (hq:∀ p∈qre_ref04_CheckClass p0,p):∀ p∈pre_ref04_CheckClass p0,p := by
 obtain ⟨h1,_⟩ := conj_of hq
 simp only [pre_ref04_CheckClass,List.forall_mem_cons]
 refine ⟨fun _ h => ?_,by intro p hp; cases hp⟩
 exact (l_ref04_CheckClass_0 p0 (by have := of_decide_eq_false h; omega) h1).1
theorem tt_ref04_CheckClass (p0:List (List Int×List Int)) (hq:∀ p∈qre_ref04_CheckClass p0,p):s_ref04_CheckClass p0 = t_ref04_CheckClass p0 := by
 obtain ⟨h1,_⟩ := conj_of hq
 unfold s_ref04_CheckClass t_ref04_CheckClass v_cc
 rcases Decidable.em ((p0.length:Int) > 4) with c | c
 ·rw [decide_eq_true c]; rfl
 ·rw [decide_eq_false c,(l_ref04_CheckClass_0 p0 (by omega) h1).2]

abbrev con_ref04_CheckClass:Con := ⟨P_ref04_CheckClass,R_ref04_CheckClass,fun x => qre_ref04_CheckClass x,fun x => t_ref04_CheckClass x⟩
theorem ok_ref04_CheckClass:ConOk Try.prog 33 con_ref04_CheckClass := ⟨k_ref04_CheckClass,fun x hx => ret_tf (ps := P_ref04_CheckClass) (rs := R_ref04_CheckClass) (x := x) (y := t_ref04_CheckClass x) e_ref04_CheckClass hC_ref04_CheckClass (tf_of (w_ref04_CheckClass_eq x (fun z => z = t_ref04_CheckClass x)) (d_ref04_CheckClass x (fun z => z = t_ref04_CheckClass x) (pp_ref04_CheckClass x hx) (tt_ref04_CheckClass x hx)))⟩
/- ref04_ClassErr -/
def C_ref04_ClassErr:Cons := [(33,[],con_ref04_CheckClass)]
theorem hC_ref04_ClassErr:ConsOk Try.prog C_ref04_ClassErr := ConsOk.cons ok_ref04_CheckClass <| ConsOk.nil
def w_ref04_ClassErr (p0:(List ((List Int)×(List Int)))) (K:Int→Prop):Prop :=
  ((v_few p0) ∧
 (K (v_cc p0).2))
set_option maxHeartbeats 4000000 in
theorem w_ref04_ClassErr_eq (p0:(List ((List Int)×(List Int)))) (K:Int→Prop):tfn F_ref04_ClassErr A_ref04_ClassErr C_ref04_ClassErr P_ref04_ClassErr R_ref04_ClassErr p0 K = w_ref04_ClassErr p0 K := by kernel_rfl
def s_ref04_ClassErr (p0:(List ((List Int)×(List Int)))):Int :=
 (v_cc p0).2
abbrev pre_ref04_ClassErr (p0:(List ((List Int)×(List Int)))):List Prop := [(v_few p0)]
set_option maxHeartbeats 4000000 in
theorem d_ref04_ClassErr (p0:(List ((List Int)×(List Int)))) (K:Int→Prop) (hp:∀ p∈pre_ref04_ClassErr p0,p) (h:K (s_ref04_ClassErr p0)):w_ref04_ClassErr p0 K := by
 unfold w_ref04_ClassErr
 unfold s_ref04_ClassErr at h
 obtain ⟨hp0,_⟩ := conj_of hp
 exact ⟨(hp0),h⟩
abbrev con_ref04_ClassErr:Con := ⟨P_ref04_ClassErr,R_ref04_ClassErr,fun x => pre_ref04_ClassErr x,fun x => s_ref04_ClassErr x⟩
theorem ok_ref04_ClassErr:ConOk Try.prog 46 con_ref04_ClassErr := ⟨k_ref04_ClassErr,fun x hx => ret_tf (ps := P_ref04_ClassErr) (rs := R_ref04_ClassErr) (x := x) (y := s_ref04_ClassErr x) e_ref04_ClassErr hC_ref04_ClassErr (tf_of (w_ref04_ClassErr_eq x (fun z => z = s_ref04_ClassErr x)) (d_ref04_ClassErr x (fun z => z = s_ref04_ClassErr x) hx rfl))⟩
/- law04_Light -/
def C_law04_Light:Cons := [(46,[],con_ref04_ClassErr),(34,[],con_ref04_Count)]
theorem hC_law04_Light:ConsOk Try.prog C_law04_Light := ConsOk.cons ok_ref04_ClassErr <| ConsOk.cons ok_ref04_Count <| ConsOk.nil
def w_law04_Light (p0:(List ((List Int)×(List Int)))) (K:Bool→Prop):Prop :=
  ((v_few p0) ∧
 (((((v_cc p0).2 != 0)=false) →
 (((v_cc p0).2 != 0)=((v_cc p0).2 != 0))) ∧
 (((((v_cc p0).2 != 0)=false) →
 (v_few p0)) ∧
 (((((v_cc p0).2 != 0)=false) →
 (p0.length≤4)) ∧
 (((((v_cc p0).2 != 0)=false) →
 (((v_cc p0).2 != 0)=((v_cc p0).2 != 0))) ∧
 ((((v_cc p0).2 != 0)=((v_cc p0).2 != 0)) ∧
 (K (cond ((v_cc p0).2 != 0) true (decide ((v_count p0)≤60))))))))))
set_option maxHeartbeats 4000000 in
theorem w_law04_Light_eq (p0:(List ((List Int)×(List Int)))) (K:Bool→Prop):tfn F_law04_Light A_law04_Light C_law04_Light P_law04_Light R_law04_Light p0 K = w_law04_Light p0 K := by kernel_rfl
def s_law04_Light (p0:(List ((List Int)×(List Int)))):Bool :=
 (cond ((v_cc p0).2 != 0) true (decide ((v_count p0)≤60)))
abbrev pre_law04_Light (p0:(List ((List Int)×(List Int)))):List Prop := [(v_few p0),
  ((((v_cc p0).2 != 0)=false)→(v_few p0)),
  ((((v_cc p0).2 != 0)=false)→(p0.length≤4))]
set_option maxHeartbeats 4000000 in
theorem d_law04_Light (p0:(List ((List Int)×(List Int)))) (K:Bool→Prop) (hp:∀ p∈pre_law04_Light p0,p) (h:K (s_law04_Light p0)):w_law04_Light p0 K := by
 unfold w_law04_Light
 unfold s_law04_Light at h
 obtain ⟨hp0,hp1,hp2,_⟩ := conj_of hp
 exact ⟨(hp0),rf,(hp1),(hp2),rf,rfl,h⟩
def v_light (l:List (List Int×List Int)):Bool := cond ((v_cc l).2 != 0) true (decide (v_count l≤60))
abbrev t_law04_Light (p0:List (List Int×List Int)):Bool := v_light p0
abbrev qre_law04_Light (p0:List (List Int×List Int)):List Prop := [v_few p0]
theorem pp_law04_Light (p0:List (List Int×List Int)) (hq:∀ p∈qre_law04_Light p0,p):∀ p∈pre_law04_Light p0,p := by
 obtain ⟨h1,_⟩ := conj_of hq
 simp only [pre_law04_Light,List.forall_mem_cons]
 exact ⟨h1,fun _ => h1,fun h => (tx_cc_ok h1 (by simpa using h)).cne.len,(by intro p hp; cases hp)⟩
theorem tt_law04_Light (p0:List (List Int×List Int)) (_hq:∀ p∈qre_law04_Light p0,p):s_law04_Light p0 = t_law04_Light p0 := by
 rfl

abbrev con_law04_Light:Con := ⟨P_law04_Light,R_law04_Light,fun x => qre_law04_Light x,fun x => t_law04_Light x⟩
theorem ok_law04_Light:ConOk Try.prog 45 con_law04_Light := ⟨k_law04_Light,fun x hx => ret_tf (ps := P_law04_Light) (rs := R_law04_Light) (x := x) (y := t_law04_Light x) e_law04_Light hC_law04_Light (tf_of (w_law04_Light_eq x (fun z => z = t_law04_Light x)) (d_law04_Light x (fun z => z = t_law04_Light x) (pp_law04_Light x hx) (tt_law04_Light x hx)))⟩
/- law04_fewData -/
def C_law04_fewData:Cons := []
theorem hC_law04_fewData:ConsOk Try.prog C_law04_fewData := ConsOk.nil
def w_law04_fewData (p0:(List (Int×(Int×Int)))) (K:Bool→Prop):Prop :=
  (K (decide ((p0.length:Int)≤8)))
set_option maxHeartbeats 4000000 in
theorem w_law04_fewData_eq (p0:(List (Int×(Int×Int)))) (K:Bool→Prop):tfn F_law04_fewData A_law04_fewData C_law04_fewData P_law04_fewData R_law04_fewData p0 K = w_law04_fewData p0 K := by kernel_rfl
def s_law04_fewData (p0:(List (Int×(Int×Int)))):Bool :=
 (decide ((p0.length:Int)≤8))
abbrev pre_law04_fewData (_p0:(List (Int×(Int×Int)))):List Prop := []
set_option maxHeartbeats 4000000 in
theorem d_law04_fewData (p0:(List (Int×(Int×Int)))) (K:Bool→Prop) (_hp:∀ p∈pre_law04_fewData p0,p) (h:K (s_law04_fewData p0)):w_law04_fewData p0 K := by
 unfold w_law04_fewData
 unfold s_law04_fewData at h
 exact h
abbrev con_law04_fewData:Con := ⟨P_law04_fewData,R_law04_fewData,fun x => pre_law04_fewData x,fun x => s_law04_fewData x⟩
theorem ok_law04_fewData:ConOk Try.prog 47 con_law04_fewData := ⟨k_law04_fewData,fun x hx => ret_tf (ps := P_law04_fewData) (rs := R_law04_fewData) (x := x) (y := s_law04_fewData x) e_law04_fewData hC_law04_fewData (tf_of (w_law04_fewData_eq x (fun z => z = s_law04_fewData x)) (d_law04_fewData x (fun z => z = s_law04_fewData x) hx rfl))⟩
/- ref04_ScaleErr -/
def C_ref04_ScaleErr:Cons := [(35,[],con_base_Within)]
theorem hC_ref04_ScaleErr:ConsOk Try.prog C_ref04_ScaleErr := ConsOk.cons ok_base_Within <| ConsOk.nil
def w_ref04_ScaleErr (p0:Int) (K:Int→Prop):Prop :=
  ((((!(s_base_Within p0 (1:Int) (20:Int)))=true) →
 (K (2:Int))) ∧
 (((!(s_base_Within p0 (1:Int) (20:Int)))=false) →
 (K (0:Int))))
set_option maxHeartbeats 4000000 in
theorem w_ref04_ScaleErr_eq (p0:Int) (K:Int→Prop):tfn F_ref04_ScaleErr A_ref04_ScaleErr C_ref04_ScaleErr P_ref04_ScaleErr R_ref04_ScaleErr p0 K = w_ref04_ScaleErr p0 K := by kernel_rfl
def s_ref04_ScaleErr (p0:Int):Int :=
 (cond (!(s_base_Within p0 (1:Int) (20:Int))) (2:Int)
  (0:Int))
abbrev pre_ref04_ScaleErr (_p0:Int):List Prop := []
set_option maxHeartbeats 4000000 in
theorem d_ref04_ScaleErr (p0:Int) (K:Int→Prop) (_hp:∀ p∈pre_ref04_ScaleErr p0,p) (h:K (s_ref04_ScaleErr p0)):w_ref04_ScaleErr p0 K := by
 unfold w_ref04_ScaleErr
 unfold s_ref04_ScaleErr at h
 exact (br' h (fun e0 h => h)
  (fun e0 h => h))
abbrev con_ref04_ScaleErr:Con := ⟨P_ref04_ScaleErr,R_ref04_ScaleErr,fun x => pre_ref04_ScaleErr x,fun x => s_ref04_ScaleErr x⟩
theorem ok_ref04_ScaleErr:ConOk Try.prog 18 con_ref04_ScaleErr := ⟨k_ref04_ScaleErr,fun x hx => ret_tf (ps := P_ref04_ScaleErr) (rs := R_ref04_ScaleErr) (x := x) (y := s_ref04_ScaleErr x) e_ref04_ScaleErr hC_ref04_ScaleErr (tf_of (w_ref04_ScaleErr_eq x (fun z => z = s_ref04_ScaleErr x)) (d_ref04_ScaleErr x (fun z => z = s_ref04_ScaleErr x) hx rfl))⟩
/- ref04_CheckData -/
def C_ref04_CheckData:Cons := [(18,[],con_ref04_ScaleErr),(35,[],con_base_Within)]
theorem hC_ref04_CheckData:ConsOk Try.prog C_ref04_CheckData := ConsOk.cons ok_ref04_ScaleErr <| ConsOk.cons ok_base_Within <| ConsOk.nil
abbrev q2_ref04_CheckData (p0:(List (Int×(Int×Int)))) (y1:Int) := ((cond (!(s_base_Within (p0.getD y1.toNat (zz0,(zz0,zz0))).1 zz1 (20:Int))) zz2 zz0) != zz0)
abbrev q0_ref04_CheckData (p0:(List (Int×(Int×Int)))) (y1:Int) := (cond (q2_ref04_CheckData p0 y1) true (!(s_base_Within (p0.getD y1.toNat (zz0,(zz0,zz0))).2.1 zz0 (100000:Int))))
abbrev q1_ref04_CheckData (p0:(List (Int×(Int×Int)))) (y1:Int) := (decide ((p0.getD y1.toNat (zz0,(zz0,zz0))).2.1 > (p0.getD y1.toNat (zz0,(zz0,zz0))).2.2))
abbrev q3_ref04_CheckData (p0:(List (Int×(Int×Int)))) (y1:Int) := (((!(q1_ref04_CheckData p0 y1)) && (decide (y1 > zz0)))=((!(q1_ref04_CheckData p0 y1)) && (decide (y1 > zz0))))
abbrev q4_ref04_CheckData (p0:(List (Int×(Int×Int)))) (y1:Int) := (((!(q1_ref04_CheckData p0 y1)) && (decide (y1 > zz0)))=true)
def w_ref04_CheckData (p0:(List (Int×(Int×Int)))) (K:(Int×Int)→Prop):Prop :=
  (((((p0.length:Int) == zz0)=true) →
 (K (zz0,(10:Int)))) ∧
 ((((p0.length:Int) == zz0)=false) →
 ((((decide ((p0.length:Int) > 6))=true) →
  (K (zz0,(8:Int)))) ∧
  (((decide ((p0.length:Int) > 6))=false) →
  (∃ n0,(loopP (fun (y1:Int) k2 =>
    ((((decide (y1 < (p0.length:Int)))=true) →
    ((zz0≤y1) ∧
     ((y1 < (p0.length:Int)) ∧
     ((((q2_ref04_CheckData p0 y1)=false) →
     ((q2_ref04_CheckData p0 y1)=(q2_ref04_CheckData p0 y1))) ∧
     ((((q2_ref04_CheckData p0 y1)=false) →
     ((q2_ref04_CheckData p0 y1)=(q2_ref04_CheckData p0 y1))) ∧
     ((((q2_ref04_CheckData p0 y1)=false) →
     (zz0≤y1)) ∧
     ((((q2_ref04_CheckData p0 y1)=false) →
     (y1 < (p0.length:Int))) ∧
     ((((q2_ref04_CheckData p0 y1)=false) →
     ((q2_ref04_CheckData p0 y1)=(q2_ref04_CheckData p0 y1))) ∧
     ((((q2_ref04_CheckData p0 y1)=false) →
     ((q2_ref04_CheckData p0 y1)=(q2_ref04_CheckData p0 y1))) ∧
     ((((q2_ref04_CheckData p0 y1)=false) →
     ((q2_ref04_CheckData p0 y1)=(q2_ref04_CheckData p0 y1))) ∧
     ((((q2_ref04_CheckData p0 y1)=false) →
     ((q2_ref04_CheckData p0 y1)=(q2_ref04_CheckData p0 y1))) ∧
     ((((q2_ref04_CheckData p0 y1)=false) →
     ((q2_ref04_CheckData p0 y1)=(q2_ref04_CheckData p0 y1))) ∧
     (((q2_ref04_CheckData p0 y1)=(q2_ref04_CheckData p0 y1)) ∧
     ((((q0_ref04_CheckData p0 y1)=false) →
     ((q0_ref04_CheckData p0 y1)=(q0_ref04_CheckData p0 y1))) ∧
     ((((q0_ref04_CheckData p0 y1)=false) →
     ((q0_ref04_CheckData p0 y1)=(q0_ref04_CheckData p0 y1))) ∧
     ((((q0_ref04_CheckData p0 y1)=false) →
     (zz0≤y1)) ∧
     ((((q0_ref04_CheckData p0 y1)=false) →
     (y1 < (p0.length:Int))) ∧
     ((((q0_ref04_CheckData p0 y1)=false) →
     ((q0_ref04_CheckData p0 y1)=(q0_ref04_CheckData p0 y1))) ∧
     ((((q0_ref04_CheckData p0 y1)=false) →
     ((q0_ref04_CheckData p0 y1)=(q0_ref04_CheckData p0 y1))) ∧
     ((((q0_ref04_CheckData p0 y1)=false) →
     ((q0_ref04_CheckData p0 y1)=(q0_ref04_CheckData p0 y1))) ∧
     ((((q0_ref04_CheckData p0 y1)=false) →
     ((q0_ref04_CheckData p0 y1)=(q0_ref04_CheckData p0 y1))) ∧
     ((((q0_ref04_CheckData p0 y1)=false) →
     ((q0_ref04_CheckData p0 y1)=(q0_ref04_CheckData p0 y1))) ∧
     (((q0_ref04_CheckData p0 y1)=(q0_ref04_CheckData p0 y1)) ∧
     ((((cond (q0_ref04_CheckData p0 y1) true (!(s_base_Within (p0.getD y1.toNat (zz0,(zz0,zz0))).2.2 zz0 (100000:Int))))=true) →
     (K (y1,zz2))) ∧
     (((cond (q0_ref04_CheckData p0 y1) true (!(s_base_Within (p0.getD y1.toNat (zz0,(zz0,zz0))).2.2 zz0 (100000:Int))))=false) →
     ((zz0≤y1) ∧
      ((y1 < (p0.length:Int)) ∧
      ((zz0≤y1) ∧
      ((y1 < (p0.length:Int)) ∧
      ((((q1_ref04_CheckData p0 y1)=false) →
      ((q1_ref04_CheckData p0 y1)=(q1_ref04_CheckData p0 y1))) ∧
      ((((q1_ref04_CheckData p0 y1)=false) →
      ((q1_ref04_CheckData p0 y1)=(q1_ref04_CheckData p0 y1))) ∧
      (((q4_ref04_CheckData p0 y1) →
      (q3_ref04_CheckData p0 y1)) ∧
      (((q4_ref04_CheckData p0 y1) →
      (q3_ref04_CheckData p0 y1)) ∧
      (((q4_ref04_CheckData p0 y1) →
      (zz0≤y1)) ∧
      (((q4_ref04_CheckData p0 y1) →
      (y1 < (p0.length:Int))) ∧
      (((q4_ref04_CheckData p0 y1) →
      (q3_ref04_CheckData p0 y1)) ∧
      (((q4_ref04_CheckData p0 y1) →
      (q3_ref04_CheckData p0 y1)) ∧
      (((q4_ref04_CheckData p0 y1) →
      (q3_ref04_CheckData p0 y1)) ∧
      (((q4_ref04_CheckData p0 y1) →
      (q3_ref04_CheckData p0 y1)) ∧
      (((q4_ref04_CheckData p0 y1) →
      (q3_ref04_CheckData p0 y1)) ∧
      (((q4_ref04_CheckData p0 y1) →
      (zz0≤(wi (y1 - zz1)))) ∧
      (((q4_ref04_CheckData p0 y1) →
      ((wi (y1 - zz1)) < (p0.length:Int))) ∧
      (((q4_ref04_CheckData p0 y1) →
      (q3_ref04_CheckData p0 y1)) ∧
      (((q4_ref04_CheckData p0 y1) →
      (q3_ref04_CheckData p0 y1)) ∧
      (((q4_ref04_CheckData p0 y1) →
      (q3_ref04_CheckData p0 y1)) ∧
      (((q4_ref04_CheckData p0 y1) →
      (q3_ref04_CheckData p0 y1)) ∧
      ((((q1_ref04_CheckData p0 y1)=false) →
      ((q1_ref04_CheckData p0 y1)=(q1_ref04_CheckData p0 y1))) ∧
      ((((q1_ref04_CheckData p0 y1)=false) →
      (((!(q1_ref04_CheckData p0 y1)) && (decide (y1 > zz0)))=(decide (y1 > zz0)))) ∧
      (((q1_ref04_CheckData p0 y1)=(q1_ref04_CheckData p0 y1)) ∧
      ((((cond (q1_ref04_CheckData p0 y1) true (cond (decide (y1 > zz0)) (decide ((p0.getD y1.toNat (zz0,(zz0,zz0))).1≤(p0.getD (Int.toNat (wi (y1 - zz1))) (zz0,(zz0,zz0))).1)) false))=true) →
      (K (y1,(9:Int)))) ∧
      (((cond (q1_ref04_CheckData p0 y1) true (cond (decide (y1 > zz0)) (decide ((p0.getD y1.toNat (zz0,(zz0,zz0))).1≤(p0.getD (Int.toNat (wi (y1 - zz1))) (zz0,(zz0,zz0))).1)) false))=false) →
      (k2 (wi (y1 + zz1)))))))))))))))))))))))))))))))))))))))))))))))))))))) ∧
    (((decide (y1 < (p0.length:Int)))=false) →
    (K (zz0,zz0))))) n0 zz0))))))
set_option maxHeartbeats 4000000 in
theorem w_ref04_CheckData_eq (p0:(List (Int×(Int×Int)))) (K:(Int×Int)→Prop):tfn F_ref04_CheckData A_ref04_CheckData C_ref04_CheckData P_ref04_CheckData R_ref04_CheckData p0 K = w_ref04_CheckData p0 K := by kernel_rfl
def st_ref04_CheckData_0 (p0:(List (Int×(Int×Int)))) (y2:Int):Int ⊕ (Int×Int) :=
 (cond (decide (y2 < (p0.length:Int))) (cond (cond (cond ((cond (!(s_base_Within (p0.getD y2.toNat ((0:Int),((0:Int),(0:Int)))).1 (1:Int) (20:Int))) (2:Int) (0:Int)) != 0) true (!(s_base_Within (p0.getD y2.toNat ((0:Int),((0:Int),(0:Int)))).2.1 (0:Int) (100000:Int)))) true (!(s_base_Within (p0.getD y2.toNat ((0:Int),((0:Int),(0:Int)))).2.2 (0:Int) (100000:Int)))) (Sum.inr (y2,(2:Int)))
  (cond (cond (decide ((p0.getD y2.toNat ((0:Int),((0:Int),(0:Int)))).2.1 > (p0.getD y2.toNat ((0:Int),((0:Int),(0:Int)))).2.2)) true (cond (decide (y2 > 0)) (decide ((p0.getD y2.toNat ((0:Int),((0:Int),(0:Int)))).1≤(p0.getD (Int.toNat (IntKind.i64.wrap (y2 - 1))) ((0:Int),((0:Int),(0:Int)))).1)) false)) (Sum.inr (y2,(9:Int)))
  (Sum.inl (IntKind.i64.wrap (y2 + 1)))))
  (Sum.inr ((0:Int),(0:Int))))
abbrev sp_ref04_CheckData_0 (p0:(List (Int×(Int×Int)))) (y2:Int):List Prop := [(((decide (y2 < (p0.length:Int)))=true)→((0:Int)≤y2)),
  (((decide (y2 < (p0.length:Int)))=true)→(y2 < (p0.length:Int))),
  (((decide (y2 < (p0.length:Int)))=true)→((((cond (!(s_base_Within (p0.getD y2.toNat ((0:Int),((0:Int),(0:Int)))).1 (1:Int) (20:Int))) (2:Int) (0:Int)) != 0)=false)→((0:Int)≤y2))),
  (((decide (y2 < (p0.length:Int)))=true)→((((cond (!(s_base_Within (p0.getD y2.toNat ((0:Int),((0:Int),(0:Int)))).1 (1:Int) (20:Int))) (2:Int) (0:Int)) != 0)=false)→(y2 < (p0.length:Int)))),
  (((decide (y2 < (p0.length:Int)))=true)→(((cond ((cond (!(s_base_Within (p0.getD y2.toNat ((0:Int),((0:Int),(0:Int)))).1 (1:Int) (20:Int))) (2:Int) (0:Int)) != 0) true (!(s_base_Within (p0.getD y2.toNat ((0:Int),((0:Int),(0:Int)))).2.1 (0:Int) (100000:Int))))=false)→((0:Int)≤y2))),
  (((decide (y2 < (p0.length:Int)))=true)→(((cond ((cond (!(s_base_Within (p0.getD y2.toNat ((0:Int),((0:Int),(0:Int)))).1 (1:Int) (20:Int))) (2:Int) (0:Int)) != 0) true (!(s_base_Within (p0.getD y2.toNat ((0:Int),((0:Int),(0:Int)))).2.1 (0:Int) (100000:Int))))=false)→(y2 < (p0.length:Int)))),
  (((decide (y2 < (p0.length:Int)))=true)→(((cond (cond ((cond (!(s_base_Within (p0.getD y2.toNat ((0:Int),((0:Int),(0:Int)))).1 (1:Int) (20:Int))) (2:Int) (0:Int)) != 0) true (!(s_base_Within (p0.getD y2.toNat ((0:Int),((0:Int),(0:Int)))).2.1 (0:Int) (100000:Int)))) true (!(s_base_Within (p0.getD y2.toNat ((0:Int),((0:Int),(0:Int)))).2.2 (0:Int) (100000:Int))))=false)→((0:Int)≤y2))),
  (((decide (y2 < (p0.length:Int)))=true)→(((cond (cond ((cond (!(s_base_Within (p0.getD y2.toNat ((0:Int),((0:Int),(0:Int)))).1 (1:Int) (20:Int))) (2:Int) (0:Int)) != 0) true (!(s_base_Within (p0.getD y2.toNat ((0:Int),((0:Int),(0:Int)))).2.1 (0:Int) (100000:Int)))) true (!(s_base_Within (p0.getD y2.toNat ((0:Int),((0:Int),(0:Int)))).2.2 (0:Int) (100000:Int))))=false)→(y2 < (p0.length:Int)))),
  (((decide (y2 < (p0.length:Int)))=true)→(((cond (cond ((cond (!(s_base_Within (p0.getD y2.toNat ((0:Int),((0:Int),(0:Int)))).1 (1:Int) (20:Int))) (2:Int) (0:Int)) != 0) true (!(s_base_Within (p0.getD y2.toNat ((0:Int),((0:Int),(0:Int)))).2.1 (0:Int) (100000:Int)))) true (!(s_base_Within (p0.getD y2.toNat ((0:Int),((0:Int),(0:Int)))).2.2 (0:Int) (100000:Int))))=false)→((((!(decide ((p0.getD y2.toNat ((0:Int),((0:Int),(0:Int)))).2.1 > (p0.getD y2.toNat ((0:Int),((0:Int),(0:Int)))).2.2))) && (decide (y2 > 0)))=true)→((0:Int)≤y2)))),
  (((decide (y2 < (p0.length:Int)))=true)→(((cond (cond ((cond (!(s_base_Within (p0.getD y2.toNat ((0:Int),((0:Int),(0:Int)))).1 (1:Int) (20:Int))) (2:Int) (0:Int)) != 0) true (!(s_base_Within (p0.getD y2.toNat ((0:Int),((0:Int),(0:Int)))).2.1 (0:Int) (100000:Int)))) true (!(s_base_Within (p0.getD y2.toNat ((0:Int),((0:Int),(0:Int)))).2.2 (0:Int) (100000:Int))))=false)→((((!(decide ((p0.getD y2.toNat ((0:Int),((0:Int),(0:Int)))).2.1 > (p0.getD y2.toNat ((0:Int),((0:Int),(0:Int)))).2.2))) && (decide (y2 > 0)))=true)→(y2 < (p0.length:Int))))),
  (((decide (y2 < (p0.length:Int)))=true)→(((cond (cond ((cond (!(s_base_Within (p0.getD y2.toNat ((0:Int),((0:Int),(0:Int)))).1 (1:Int) (20:Int))) (2:Int) (0:Int)) != 0) true (!(s_base_Within (p0.getD y2.toNat ((0:Int),((0:Int),(0:Int)))).2.1 (0:Int) (100000:Int)))) true (!(s_base_Within (p0.getD y2.toNat ((0:Int),((0:Int),(0:Int)))).2.2 (0:Int) (100000:Int))))=false)→((((!(decide ((p0.getD y2.toNat ((0:Int),((0:Int),(0:Int)))).2.1 > (p0.getD y2.toNat ((0:Int),((0:Int),(0:Int)))).2.2))) && (decide (y2 > 0)))=true)→((0:Int)≤(IntKind.i64.wrap (y2 - 1)))))),
  (((decide (y2 < (p0.length:Int)))=true)→(((cond (cond ((cond (!(s_base_Within (p0.getD y2.toNat ((0:Int),((0:Int),(0:Int)))).1 (1:Int) (20:Int))) (2:Int) (0:Int)) != 0) true (!(s_base_Within (p0.getD y2.toNat ((0:Int),((0:Int),(0:Int)))).2.1 (0:Int) (100000:Int)))) true (!(s_base_Within (p0.getD y2.toNat ((0:Int),((0:Int),(0:Int)))).2.2 (0:Int) (100000:Int))))=false)→((((!(decide ((p0.getD y2.toNat ((0:Int),((0:Int),(0:Int)))).2.1 > (p0.getD y2.toNat ((0:Int),((0:Int),(0:Int)))).2.2))) && (decide (y2 > 0)))=true)→((IntKind.i64.wrap (y2 - 1)) < (p0.length:Int))))),
  (((decide (y2 < (p0.length:Int)))=true)→(((cond (cond ((cond (!(s_base_Within (p0.getD y2.toNat ((0:Int),((0:Int),(0:Int)))).1 (1:Int) (20:Int))) (2:Int) (0:Int)) != 0) true (!(s_base_Within (p0.getD y2.toNat ((0:Int),((0:Int),(0:Int)))).2.1 (0:Int) (100000:Int)))) true (!(s_base_Within (p0.getD y2.toNat ((0:Int),((0:Int),(0:Int)))).2.2 (0:Int) (100000:Int))))=false)→(((decide ((p0.getD y2.toNat ((0:Int),((0:Int),(0:Int)))).2.1 > (p0.getD y2.toNat ((0:Int),((0:Int),(0:Int)))).2.2))=false)→(((!(decide ((p0.getD y2.toNat ((0:Int),((0:Int),(0:Int)))).2.1 > (p0.getD y2.toNat ((0:Int),((0:Int),(0:Int)))).2.2))) && (decide (y2 > 0)))=(decide (y2 > 0))))))]
def s_ref04_CheckData (p0:(List (Int×(Int×Int)))):(Int×Int) :=
 (cond ((p0.length:Int) == 0) ((0:Int),(10:Int))
  (cond (decide ((p0.length:Int) > 6)) ((0:Int),(8:Int))
  (lpv ((0:Int),(0:Int)) (st_ref04_CheckData_0 p0) (0:Int))))
abbrev pre_ref04_CheckData (p0:(List (Int×(Int×Int)))):List Prop := [((((p0.length:Int) == 0)=false)→(((decide ((p0.length:Int) > 6))=false)→(OkL (st_ref04_CheckData_0 p0) (sp_ref04_CheckData_0 p0) (0:Int))))]
set_option maxHeartbeats 4000000 in
theorem d_ref04_CheckData (p0:(List (Int×(Int×Int)))) (K:(Int×Int)→Prop) (hp:∀ p∈pre_ref04_CheckData p0,p) (h:K (s_ref04_CheckData p0)):w_ref04_CheckData p0 K := by
 unfold w_ref04_CheckData
 unfold s_ref04_CheckData at h
 obtain ⟨hp0,_⟩ := conj_of hp
 exact (br' h (fun e0 h => h)
  (fun e0 h => (br' h (fun e1 h => h)
  (fun e1 h => (loop_gen (hp0 e0 e1) h (fun y2 k2 hp h => by
 unfold st_ref04_CheckData_0 at h; obtain ⟨hp0,hp1,hp2,hp3,hp4,hp5,hp6,hp7,hp8,hp9,hp10,hp11,hp12,_⟩ := conj_of hp
 exact (br' h (fun e3 h => ⟨(hp0 e3),(hp1 e3),rf,rf,(hp2 e3),(hp3 e3),rf,rf,rf,rf,rf,rfl,rf,rf,(hp4 e3),(hp5 e3),rf,rf,rf,rf,rf,rfl,(br' h (fun e4 h => h)
  (fun e4 h => ⟨(hp6 e3 e4),(hp7 e3 e4),(hp6 e3 e4),(hp7 e3 e4),rf,rf,rf,rf,(hp8 e3 e4),(hp9 e3 e4),rf,rf,rf,rf,rf,(hp10 e3 e4),(hp11 e3 e4),rf,rf,rf,rf,rf,(hp12 e3 e4),rfl,(br' h (fun e5 h => h)
  (fun e5 h => h))⟩))⟩)
  (fun e3 h => h))))))))
/-- What is wrong with a datum; with data. -/
def v_cd1 (l:List (Int×Int×Int)) (i:Int) (x:Int×Int×Int):Option (Int×Int) := cond (cond (s_base_Within x.1 1 20) (cond (s_base_Within x.2.1 0 100000) (s_base_Within x.2.2 0 100000) false) false) (cond (cond (decide (x.2.1≤x.2.2)) (cond (i == 0) true (decide (x.1 > (l.getD (i - 1).toNat (0,0,0)).1))) false) none (some (i,9))) (some (i,2))
def v_cd (l:List (Int×Int×Int)):Int×Int := cond ((l.length:Int) == 0) (0,10) (cond (decide ((l.length:Int) > 6)) (0,8) (v_scan (v_cd1 l) (0,0) 0 l))
theorem l_ref04_CheckData_0 (p0:List (Int×Int×Int)) (hl:lenOk p0):OkL (st_ref04_CheckData_0 p0) (sp_ref04_CheckData_0 p0) 0∧lpv ((0,0):Int×Int) (st_ref04_CheckData_0 p0) 0 = v_scan (v_cd1 p0) ((0,0):Int×Int) 0 p0 := by
 refine scan_is p0 (0,0,0) (v_cd1 p0) ((0,0):Int×Int) hl ?_ ?_
 ·refine ⟨by simp only [sp_ref04_CheckData_0,List.forall_mem_cons,decide_eq_true_eq]; simp,by simp [st_ref04_CheckData_0]⟩
 ·intro j hj
  have hj' : (j:Int) < p0.length := by omega
  have hw := wrap_nat (show (j:Int)≤9223372036854775806 by unfold lenOk at hl; omega)
  have hw2:IntKind.i64.wrap ((j:Int) - 1)=(j:Int) - 1 := wrap_id (by omega) (by unfold lenOk at hl; omega)
  refine ⟨by simp only [sp_ref04_CheckData_0,List.forall_mem_cons,decide_eq_true_eq,Int.toNat_natCast]; rw [hw2]; and_intros <;> first | (intro p hp; cases hp; done) | (intros; first | omega | (simp_all; done) | (simp_all; omega)),?_⟩
  simp only [st_ref04_CheckData_0,hj',decide_true,Int.toNat_natCast,cond_true,hw]
  unfold v_cd1
  rw [hw2]
  rcases int0 (j:Int) with ⟨hj0,_,z⟩ | ⟨hj0,_,z⟩ <;> rw [z]
  ·rw [decide_eq_false (show ¬ (j:Int) > 0 by omega)]
   rcases dec0 (a := (p0.getD j (0,0,0)).2.2) (b := (p0.getD j (0,0,0)).2.1) with ⟨_,_,_,d3,d4⟩ | ⟨_,_,_,d3,d4⟩ <;> rw [d4] <;> simp only [d3] <;> cases s_base_Within (p0.getD j (0,0,0)).1 1 20 <;> cases s_base_Within (p0.getD j (0,0,0)).2.1 0 100000 <;> cases s_base_Within (p0.getD j (0,0,0)).2.2 0 100000 <;> rfl
  ·rw [decide_eq_true (show (j:Int) > 0 by omega)]
   rcases dec0 (a := (p0.getD j (0,0,0)).2.2) (b := (p0.getD j (0,0,0)).2.1) with ⟨_,_,_,d3,d4⟩ | ⟨_,_,_,d3,d4⟩ <;> rw [d4] <;> simp only [d3] <;> rcases dec0 (a := (p0.getD ((j:Int) - 1).toNat (0,0,0)).1) (b := (p0.getD j (0,0,0)).1) with ⟨_,c1,c2,c3,c4⟩ | ⟨_,c1,c2,c3,c4⟩ <;> simp only [c3,c4] <;> cases s_base_Within (p0.getD j (0,0,0)).1 1 20 <;> cases s_base_Within (p0.getD j (0,0,0)).2.1 0 100000 <;> cases s_base_Within (p0.getD j (0,0,0)).2.2 0 100000 <;> rfl
abbrev t_ref04_CheckData (p0:List (Int×Int×Int)):Int×Int := v_cd p0
abbrev qre_ref04_CheckData (_p0:List (Int×Int×Int)):List Prop := []
theorem pp_ref04_CheckData (p0:List (Int×Int×Int)) (_hq:∀ p∈qre_ref04_CheckData p0,p):∀ p∈pre_ref04_CheckData p0,p := by
 simp only [pre_ref04_CheckData,List.forall_mem_cons]
 exact ⟨fun _ h => (l_ref04_CheckData_0 p0 (lenOk_le (n := 6) (by have := of_decide_eq_false h; omega) (by decide))).1,by simp⟩
theorem tt_ref04_CheckData (p0:List (Int×Int×Int)) (_hq:∀ p∈qre_ref04_CheckData p0,p):s_ref04_CheckData p0 = t_ref04_CheckData p0 := by
 unfold s_ref04_CheckData t_ref04_CheckData v_cd
 cases h:decide ((p0.length:Int) > 6)
 ·rw [(l_ref04_CheckData_0 p0 (lenOk_le (n := 6) (by have := of_decide_eq_false h; omega) (by decide))).2]
 ·rfl

abbrev con_ref04_CheckData:Con := ⟨P_ref04_CheckData,R_ref04_CheckData,fun x => qre_ref04_CheckData x,fun x => t_ref04_CheckData x⟩
theorem ok_ref04_CheckData:ConOk Try.prog 54 con_ref04_CheckData := ⟨k_ref04_CheckData,fun x hx => ret_tf (ps := P_ref04_CheckData) (rs := R_ref04_CheckData) (x := x) (y := t_ref04_CheckData x) e_ref04_CheckData hC_ref04_CheckData (tf_of (w_ref04_CheckData_eq x (fun z => z = t_ref04_CheckData x)) (d_ref04_CheckData x (fun z => z = t_ref04_CheckData x) (pp_ref04_CheckData x hx) (tt_ref04_CheckData x hx)))⟩
/- ref04_DataErr -/
def C_ref04_DataErr:Cons := [(54,[],con_ref04_CheckData)]
theorem hC_ref04_DataErr:ConsOk Try.prog C_ref04_DataErr := ConsOk.cons ok_ref04_CheckData <| ConsOk.nil
def w_ref04_DataErr (p0:(List (Int×(Int×Int)))) (K:Int→Prop):Prop :=
  (K (v_cd p0).2)
set_option maxHeartbeats 4000000 in
theorem w_ref04_DataErr_eq (p0:(List (Int×(Int×Int)))) (K:Int→Prop):tfn F_ref04_DataErr A_ref04_DataErr C_ref04_DataErr P_ref04_DataErr R_ref04_DataErr p0 K = w_ref04_DataErr p0 K := by kernel_rfl
def s_ref04_DataErr (p0:(List (Int×(Int×Int)))):Int :=
 (v_cd p0).2
abbrev pre_ref04_DataErr (_p0:(List (Int×(Int×Int)))):List Prop := []
set_option maxHeartbeats 4000000 in
theorem d_ref04_DataErr (p0:(List (Int×(Int×Int)))) (K:Int→Prop) (_hp:∀ p∈pre_ref04_DataErr p0,p) (h:K (s_ref04_DataErr p0)):w_ref04_DataErr p0 K := by
 unfold w_ref04_DataErr
 unfold s_ref04_DataErr at h
 exact h
abbrev con_ref04_DataErr:Con := ⟨P_ref04_DataErr,R_ref04_DataErr,fun x => pre_ref04_DataErr x,fun x => s_ref04_DataErr x⟩
theorem ok_ref04_DataErr:ConOk Try.prog 42 con_ref04_DataErr := ⟨k_ref04_DataErr,fun x hx => ret_tf (ps := P_ref04_DataErr) (rs := R_ref04_DataErr) (x := x) (y := s_ref04_DataErr x) e_ref04_DataErr hC_ref04_DataErr (tf_of (w_ref04_DataErr_eq x (fun z => z = s_ref04_DataErr x)) (d_ref04_DataErr x (fun z => z = s_ref04_DataErr x) hx rfl))⟩
/- base_CopyInts_p -/
def C_base_CopyInts_p:Cons := []
theorem hC_base_CopyInts_p:ConsOk Try.prog C_base_CopyInts_p := ConsOk.nil
def w_base_CopyInts_p (p0:(List Int)) (K:(List Int)→Prop):Prop :=
  (((((List.length ([]:List Int)) + p0.length) * 8)≤140737488355328) ∧
 (K (([]:List Int) ++ p0)))
set_option maxHeartbeats 4000000 in
theorem w_base_CopyInts_p_eq (p0:(List Int)) (K:(List Int)→Prop):tfn F_base_CopyInts_p A_base_CopyInts_p C_base_CopyInts_p P_base_CopyInts_p R_base_CopyInts_p p0 K = w_base_CopyInts_p p0 K := by kernel_rfl
def s_base_CopyInts_p (p0:(List Int)):(List Int) :=
 (([]:List Int) ++ p0)
abbrev pre_base_CopyInts_p (p0:(List Int)):List Prop := [((((List.length ([]:List Int)) + p0.length) * 8)≤140737488355328)]
set_option maxHeartbeats 4000000 in
theorem d_base_CopyInts_p (p0:(List Int)) (K:(List Int)→Prop) (hp:∀ p∈pre_base_CopyInts_p p0,p) (h:K (s_base_CopyInts_p p0)):w_base_CopyInts_p p0 K := by
 unfold w_base_CopyInts_p
 unfold s_base_CopyInts_p at h
 obtain ⟨hp0,_⟩ := conj_of hp
 exact ⟨(hp0),h⟩
abbrev con_base_CopyInts_p:Con := ⟨P_base_CopyInts_p,R_base_CopyInts_p,fun x => pre_base_CopyInts_p x,fun x => s_base_CopyInts_p x⟩
theorem ok_base_CopyInts_p:ConOk Try.prog 66 con_base_CopyInts_p := ⟨k_base_CopyInts_p,fun x hx => ret_tf (ps := P_base_CopyInts_p) (rs := R_base_CopyInts_p) (x := x) (y := s_base_CopyInts_p x) e_base_CopyInts_p hC_base_CopyInts_p (tf_of (w_base_CopyInts_p_eq x (fun z => z = s_base_CopyInts_p x)) (d_base_CopyInts_p x (fun z => z = s_base_CopyInts_p x) hx rfl))⟩
/- ref04_CopyClass -/
def C_ref04_CopyClass:Cons := [(66,[],con_base_CopyInts_p)]
theorem hC_ref04_CopyClass:ConsOk Try.prog C_ref04_CopyClass := ConsOk.cons ok_base_CopyInts_p <| ConsOk.nil
def w_ref04_CopyClass (p0:(List ((List Int)×(List Int)))) (K:(List ((List Int)×(List Int)))→Prop):Prop :=
  (∃ n0,(loopP (fun (y1:(Int×(List ((List Int)×(List Int))))) k2 =>
  ((((decide (y1.1 < (p0.length:Int)))=true) →
  (((0:Int)≤y1.1) ∧
   ((y1.1 < (p0.length:Int)) ∧
   (((((List.length ([]:List Int)) + (List.length (p0.getD y1.1.toNat (([]:List Int),([]:List Int))).1)) * 8)≤140737488355328) ∧
   (((((List.length ([]:List Int)) + (List.length (p0.getD y1.1.toNat (([]:List Int),([]:List Int))).2)) * 8)≤140737488355328) ∧
   ((((y1.2.length + (List.length (((([]:List Int) ++ (p0.getD y1.1.toNat (([]:List Int),([]:List Int))).1),(([]:List Int) ++ (p0.getD y1.1.toNat (([]:List Int),([]:List Int))).2)) :: ([]:List ((List Int)×(List Int)))))) * 48)≤140737488355328) ∧
   (k2 ((IntKind.i64.wrap (y1.1 + 1)),(y1.2 ++ (((([]:List Int) ++ (p0.getD y1.1.toNat (([]:List Int),([]:List Int))).1),(([]:List Int) ++ (p0.getD y1.1.toNat (([]:List Int),([]:List Int))).2)) :: ([]:List ((List Int)×(List Int))))))))))))) ∧
  (((decide (y1.1 < (p0.length:Int)))=false) →
  (K y1.2)))) n0 ((0:Int),([]:List ((List Int)×(List Int))))))
set_option maxHeartbeats 4000000 in
theorem w_ref04_CopyClass_eq (p0:(List ((List Int)×(List Int)))) (K:(List ((List Int)×(List Int)))→Prop):tfn F_ref04_CopyClass A_ref04_CopyClass C_ref04_CopyClass P_ref04_CopyClass R_ref04_CopyClass p0 K = w_ref04_CopyClass p0 K := by kernel_rfl
def st_ref04_CopyClass_0 (p0:(List ((List Int)×(List Int)))) (y0:(Int×(List ((List Int)×(List Int))))):(Int×(List ((List Int)×(List Int)))) ⊕ (List ((List Int)×(List Int))) :=
 (cond (decide (y0.1 < (p0.length:Int))) (Sum.inl ((IntKind.i64.wrap (y0.1 + 1)),(y0.2 ++ (((([]:List Int) ++ (p0.getD y0.1.toNat (([]:List Int),([]:List Int))).1),(([]:List Int) ++ (p0.getD y0.1.toNat (([]:List Int),([]:List Int))).2)) :: ([]:List ((List Int)×(List Int)))))))
  (Sum.inr y0.2))
abbrev sp_ref04_CopyClass_0 (p0:(List ((List Int)×(List Int)))) (y0:(Int×(List ((List Int)×(List Int))))):List Prop := [(((decide (y0.1 < (p0.length:Int)))=true)→((0:Int)≤y0.1)),
  (((decide (y0.1 < (p0.length:Int)))=true)→(y0.1 < (p0.length:Int))),
  (((decide (y0.1 < (p0.length:Int)))=true)→((((List.length ([]:List Int)) + (List.length (p0.getD y0.1.toNat (([]:List Int),([]:List Int))).1)) * 8)≤140737488355328)),
  (((decide (y0.1 < (p0.length:Int)))=true)→((((List.length ([]:List Int)) + (List.length (p0.getD y0.1.toNat (([]:List Int),([]:List Int))).2)) * 8)≤140737488355328)),
  (((decide (y0.1 < (p0.length:Int)))=true)→(((y0.2.length + (List.length (((([]:List Int) ++ (p0.getD y0.1.toNat (([]:List Int),([]:List Int))).1),(([]:List Int) ++ (p0.getD y0.1.toNat (([]:List Int),([]:List Int))).2)) :: ([]:List ((List Int)×(List Int)))))) * 48)≤140737488355328))]
def s_ref04_CopyClass (p0:(List ((List Int)×(List Int)))):(List ((List Int)×(List Int))) :=
 (lpv [] (st_ref04_CopyClass_0 p0) ((0:Int),([]:List ((List Int)×(List Int)))))
abbrev pre_ref04_CopyClass (p0:(List ((List Int)×(List Int)))):List Prop := [(OkL (st_ref04_CopyClass_0 p0) (sp_ref04_CopyClass_0 p0) ((0:Int),([]:List ((List Int)×(List Int)))))]
set_option maxHeartbeats 4000000 in
theorem d_ref04_CopyClass (p0:(List ((List Int)×(List Int)))) (K:(List ((List Int)×(List Int)))→Prop) (hp:∀ p∈pre_ref04_CopyClass p0,p) (h:K (s_ref04_CopyClass p0)):w_ref04_CopyClass p0 K := by
 unfold w_ref04_CopyClass
 unfold s_ref04_CopyClass at h
 obtain ⟨hp0,_⟩ := conj_of hp
 exact (loop_gen (hp0) h (fun y0 k0 hp h => by
 unfold st_ref04_CopyClass_0 at h; obtain ⟨hp0,hp1,hp2,hp3,hp4,_⟩ := conj_of hp
 exact (br' h (fun e1 h => ⟨(hp0 e1),(hp1 e1),(hp2 e1),(hp3 e1),(hp4 e1),h⟩)
  (fun e1 h => h))))
theorem l_ref04_CopyClass_0 (p0:List (List Int×List Int)) (h1:p0.length≤6) (h2:v_few p0):OkL (st_ref04_CopyClass_0 p0) (sp_ref04_CopyClass_0 p0) (0,[])∧lpv [] (st_ref04_CopyClass_0 p0) (0,[])=p0 := by
 refine @for_is (List (List Int×List Int)) (Int×List (List Int×List Int)) (List (List Int×List Int)) [] (st_ref04_CopyClass_0 p0) (sp_ref04_CopyClass_0 p0) (fun i t => (i,t)) 0 p0.length (fun j t => t = p0.take j) (fun _ _ => p0) (by omega) (by omega) ?_ ?_ [] (by simp)
 ·rintro t rfl
  simp only [sp_ref04_CopyClass_0,st_ref04_CopyClass_0,List.forall_mem_cons,show decide ((p0.length:Int) < (p0.length:Int))=false from decide_eq_false (by omega),cond_false,List.take_length]
  refine ⟨?_,trivial⟩
  and_intros
  all_goals first
   | (intro h; cases h; done)
   | (intro p hp; cases hp)
 ·rintro j t - hj rfl
  have hd1:decide ((j:Int) < (p0.length:Int))=true := decide_eq_true (by omega)
  have hw1:IntKind.i64.wrap ((j:Int) + 1)=((j + 1:Nat):Int) := wrap_id (by omega) (by omega)
  have hx := h2.len _ (v_getD_mem (d := ([],[])) hj)
  simp only [sp_ref04_CopyClass_0,st_ref04_CopyClass_0,List.forall_mem_cons,hd1,cond_true,Int.toNat_natCast,hw1,List.nil_append,List.length_nil,List.length_take,List.length_singleton]
  refine ⟨?_,.inl ⟨_,rfl,?_,trivial⟩⟩
  ·and_intros
   all_goals first
    | (intro p hp; cases hp; done)
    | (intros; omega)
  ·show p0.take j ++ [p0.getD j ([],[])]=p0.take (j + 1)
   rw [List.take_add_one,List.getD_eq_getElem?_getD,List.getElem?_eq_getElem hj]; rfl
abbrev t_ref04_CopyClass (p0:List (List Int×List Int)):List (List Int×List Int) := p0
abbrev qre_ref04_CopyClass (p0:List (List Int×List Int)):List Prop := [p0.length≤6,v_few p0]
theorem pp_ref04_CopyClass (p0:List (List Int×List Int)) (hq:∀ p∈qre_ref04_CopyClass p0,p):∀ p∈pre_ref04_CopyClass p0,p := by
 obtain ⟨h1,h2,_⟩ := conj_of hq
 simp only [pre_ref04_CopyClass,List.forall_mem_cons]
 exact ⟨(l_ref04_CopyClass_0 p0 h1 h2).1,(by intro p hp; cases hp)⟩
theorem tt_ref04_CopyClass (p0:List (List Int×List Int)) (hq:∀ p∈qre_ref04_CopyClass p0,p):s_ref04_CopyClass p0 = t_ref04_CopyClass p0 := by
 obtain ⟨h1,h2,_⟩ := conj_of hq
 exact (l_ref04_CopyClass_0 p0 h1 h2).2

abbrev con_ref04_CopyClass:Con := ⟨P_ref04_CopyClass,R_ref04_CopyClass,fun x => qre_ref04_CopyClass x,fun x => t_ref04_CopyClass x⟩
theorem ok_ref04_CopyClass:ConOk Try.prog 29 con_ref04_CopyClass := ⟨k_ref04_CopyClass,fun x hx => ret_tf (ps := P_ref04_CopyClass) (rs := R_ref04_CopyClass) (x := x) (y := t_ref04_CopyClass x) e_ref04_CopyClass hC_ref04_CopyClass (tf_of (w_ref04_CopyClass_eq x (fun z => z = t_ref04_CopyClass x)) (d_ref04_CopyClass x (fun z => z = t_ref04_CopyClass x) (pp_ref04_CopyClass x hx) (tt_ref04_CopyClass x hx)))⟩
/- ref04_CopyData -/
def C_ref04_CopyData:Cons := []
theorem hC_ref04_CopyData:ConsOk Try.prog C_ref04_CopyData := ConsOk.nil
def w_ref04_CopyData (p0:(List (Int×(Int×Int)))) (K:(List (Int×(Int×Int)))→Prop):Prop :=
  (((((List.length ([]:List (Int×(Int×Int)))) + p0.length) * 24)≤140737488355328) ∧
 (K (([]:List (Int×(Int×Int))) ++ p0)))
set_option maxHeartbeats 4000000 in
theorem w_ref04_CopyData_eq (p0:(List (Int×(Int×Int)))) (K:(List (Int×(Int×Int)))→Prop):tfnO F_ref04_CopyData A_ref04_CopyData C_ref04_CopyData P_ref04_CopyData E_ref04_CopyData p0 K = w_ref04_CopyData p0 K := by kernel_rfl
def s_ref04_CopyData (p0:(List (Int×(Int×Int)))):(List (Int×(Int×Int))) :=
 (([]:List (Int×(Int×Int))) ++ p0)
abbrev pre_ref04_CopyData (p0:(List (Int×(Int×Int)))):List Prop := [((((List.length ([]:List (Int×(Int×Int)))) + p0.length) * 24)≤140737488355328)]
set_option maxHeartbeats 4000000 in
theorem d_ref04_CopyData (p0:(List (Int×(Int×Int)))) (K:(List (Int×(Int×Int)))→Prop) (hp:∀ p∈pre_ref04_CopyData p0,p) (h:K (s_ref04_CopyData p0)):w_ref04_CopyData p0 K := by
 unfold w_ref04_CopyData
 unfold s_ref04_CopyData at h
 obtain ⟨hp0,_⟩ := conj_of hp
 exact ⟨(hp0),h⟩
abbrev con_ref04_CopyData:Con := ⟨P_ref04_CopyData,[.one (.sl E_ref04_CopyData)],fun x => pre_ref04_CopyData x,fun x => s_ref04_CopyData x⟩
theorem ok_ref04_CopyData:ConOOk Try.prog 49 con_ref04_CopyData := conO_tf (e := E_ref04_CopyData) (ps := P_ref04_CopyData) k_ref04_CopyData e_ref04_CopyData hC_ref04_CopyData (fun x hx => tfo_of (w_ref04_CopyData_eq x (fun z => z = s_ref04_CopyData x)) (d_ref04_CopyData x (fun z => z = s_ref04_CopyData x) hx rfl))
/- ground_CheckData_1 -/
def C_ground_CheckData_1:Cons := [(95,[],con_ground_within)]
theorem hC_ground_CheckData_1:ConsOk Try.prog C_ground_CheckData_1 := ConsOk.cons ok_ground_within <| ConsOk.nil
def w_ground_CheckData_1 (p0:Int) (K:Bool→Prop):Prop :=
  (K (s_ground_within p0 (0:Int) (100000:Int)))
set_option maxHeartbeats 4000000 in
theorem w_ground_CheckData_1_eq (p0:Int) (K:Bool→Prop):tfn F_ground_CheckData_1 A_ground_CheckData_1 C_ground_CheckData_1 P_ground_CheckData_1 R_ground_CheckData_1 p0 K = w_ground_CheckData_1 p0 K := by kernel_rfl
def s_ground_CheckData_1 (p0:Int):Bool :=
 (s_ground_within p0 (0:Int) (100000:Int))
abbrev pre_ground_CheckData_1 (_p0:Int):List Prop := []
set_option maxHeartbeats 4000000 in
theorem d_ground_CheckData_1 (p0:Int) (K:Bool→Prop) (_hp:∀ p∈pre_ground_CheckData_1 p0,p) (h:K (s_ground_CheckData_1 p0)):w_ground_CheckData_1 p0 K := by
 unfold w_ground_CheckData_1
 unfold s_ground_CheckData_1 at h
 exact h
abbrev con_ground_CheckData_1:Con := ⟨P_ground_CheckData_1,R_ground_CheckData_1,fun x => pre_ground_CheckData_1 x,fun x => s_ground_CheckData_1 x⟩
theorem ok_ground_CheckData_1:ConOk Try.prog 110 con_ground_CheckData_1 := ⟨k_ground_CheckData_1,fun x hx => ret_tf (ps := P_ground_CheckData_1) (rs := R_ground_CheckData_1) (x := x) (y := s_ground_CheckData_1 x) e_ground_CheckData_1 hC_ground_CheckData_1 (tf_of (w_ground_CheckData_1_eq x (fun z => z = s_ground_CheckData_1 x)) (d_ground_CheckData_1 x (fun z => z = s_ground_CheckData_1 x) hx rfl))⟩
/- ground_CheckData -/
def C_ground_CheckData:Cons := [(74,[],con_ground_unless),(73,[],con_ground_first),(78,[],con_ground_scaleErr),(110,[],con_ground_CheckData_1)]
theorem hC_ground_CheckData:ConsOk Try.prog C_ground_CheckData := ConsOk.cons ok_ground_unless <| ConsOk.cons ok_ground_first <| ConsOk.cons ok_ground_scaleErr <| ConsOk.cons ok_ground_CheckData_1 <| ConsOk.nil
abbrev q1_ground_CheckData (p0:(List (Int×(Int×Int)))) (y1:Int) := (p0.getD y1.toNat (zz0,(zz0,zz0)))
abbrev q0_ground_CheckData (p0:(List (Int×(Int×Int)))) (y1:Int) := (s_ground_within (q1_ground_CheckData p0 y1).2.1 zz0 (100000:Int))
abbrev q2_ground_CheckData (p0:(List (Int×(Int×Int)))) := ((s_ground_unless (decide ((p0.length:Int) > zz0)) (10:Int)) :: ((s_ground_unless (decide ((p0.length:Int)≤6)) (8:Int)) :: ([]:List Int)))
abbrev q3_ground_CheckData (p0:(List (Int×(Int×Int)))) (y1:Int) := (s_ground_unless (cond (q0_ground_CheckData p0 y1) (s_ground_within (q1_ground_CheckData p0 y1).2.2 zz0 (100000:Int)) false) zz2)
def w_ground_CheckData (p0:(List (Int×(Int×Int)))) (K:(Int×Int)→Prop):Prop :=
  ((lenOk (q2_ground_CheckData p0)) ∧
 (((((v_first (q2_ground_CheckData p0)) != zz0)=true) →
 (K (zz0,(v_first (q2_ground_CheckData p0))))) ∧
 ((((v_first (q2_ground_CheckData p0)) != zz0)=false) →
 (∃ n0,(loopP (fun (y1:Int) k2 =>
   ((((decide (y1 < (p0.length:Int)))=true) →
   ((zz0≤y1) ∧
    ((y1 < (p0.length:Int)) ∧
    ((((y1 == zz0)=false) →
    ((y1 == zz0)=(y1 == zz0))) ∧
    ((((y1 == zz0)=false) →
    ((y1 == zz0)=(y1 == zz0))) ∧
    ((((y1 == zz0)=false) →
    ((y1 == zz0)=(y1 == zz0))) ∧
    ((((y1 == zz0)=false) →
    ((y1 == zz0)=(y1 == zz0))) ∧
    ((((y1 == zz0)=false) →
    (zz0≤(wi (y1 - zz1)))) ∧
    ((((y1 == zz0)=false) →
    ((wi (y1 - zz1)) < (p0.length:Int))) ∧
    ((((y1 == zz0)=false) →
    ((y1 == zz0)=(y1 == zz0))) ∧
    ((((y1 == zz0)=false) →
    ((y1 == zz0)=(y1 == zz0))) ∧
    ((((y1 == zz0)=false) →
    ((y1 == zz0)=(y1 == zz0))) ∧
    ((((y1 == zz0)=false) →
    ((y1 == zz0)=(y1 == zz0))) ∧
    (((y1 == zz0)=(y1 == zz0)) ∧
    ((((q0_ground_CheckData p0 y1)=true) →
    ((q0_ground_CheckData p0 y1)=(q0_ground_CheckData p0 y1))) ∧
    ((((q0_ground_CheckData p0 y1)=true) →
    ((q0_ground_CheckData p0 y1)=(q0_ground_CheckData p0 y1))) ∧
    ((((q0_ground_CheckData p0 y1)=true) →
    ((q0_ground_CheckData p0 y1)=(q0_ground_CheckData p0 y1))) ∧
    ((((q0_ground_CheckData p0 y1)=true) →
    ((q0_ground_CheckData p0 y1)=(q0_ground_CheckData p0 y1))) ∧
    (((q0_ground_CheckData p0 y1)=(q0_ground_CheckData p0 y1)) ∧
    (((decide ((q1_ground_CheckData p0 y1).2.1≤(q1_ground_CheckData p0 y1).2.2))=(decide ((q1_ground_CheckData p0 y1).2.1≤(q1_ground_CheckData p0 y1).2.2))) ∧
    ((lenOk ((s_ground_unless (s_ground_within (q1_ground_CheckData p0 y1).1 zz1 (20:Int)) zz2) :: ((q3_ground_CheckData p0 y1) :: ((s_ground_unless (cond (decide ((q1_ground_CheckData p0 y1).2.1≤(q1_ground_CheckData p0 y1).2.2)) (cond (y1 == zz0) true (decide ((q1_ground_CheckData p0 y1).1 > (p0.getD (Int.toNat (wi (y1 - zz1))) (zz0,(zz0,zz0))).1))) false) (9:Int)) :: ([]:List Int))))) ∧
    (((((v_first ((s_ground_unless (s_ground_within (q1_ground_CheckData p0 y1).1 zz1 (20:Int)) zz2) :: ((q3_ground_CheckData p0 y1) :: ((s_ground_unless (cond (decide ((q1_ground_CheckData p0 y1).2.1≤(q1_ground_CheckData p0 y1).2.2)) (cond (y1 == zz0) true (decide ((q1_ground_CheckData p0 y1).1 > (p0.getD (Int.toNat (wi (y1 - zz1))) (zz0,(zz0,zz0))).1))) false) (9:Int)) :: ([]:List Int))))) != zz0)=true) →
    (K (y1,(v_first ((s_ground_unless (s_ground_within (q1_ground_CheckData p0 y1).1 zz1 (20:Int)) zz2) :: ((q3_ground_CheckData p0 y1) :: ((s_ground_unless (cond (decide ((q1_ground_CheckData p0 y1).2.1≤(q1_ground_CheckData p0 y1).2.2)) (cond (y1 == zz0) true (decide ((q1_ground_CheckData p0 y1).1 > (p0.getD (Int.toNat (wi (y1 - zz1))) (zz0,(zz0,zz0))).1))) false) (9:Int)) :: ([]:List Int)))))))) ∧
    ((((v_first ((s_ground_unless (s_ground_within (q1_ground_CheckData p0 y1).1 zz1 (20:Int)) zz2) :: ((q3_ground_CheckData p0 y1) :: ((s_ground_unless (cond (decide ((q1_ground_CheckData p0 y1).2.1≤(q1_ground_CheckData p0 y1).2.2)) (cond (y1 == zz0) true (decide ((q1_ground_CheckData p0 y1).1 > (p0.getD (Int.toNat (wi (y1 - zz1))) (zz0,(zz0,zz0))).1))) false) (9:Int)) :: ([]:List Int))))) != zz0)=false) →
    (k2 (wi (y1 + zz1)))))))))))))))))))))))))) ∧
   (((decide (y1 < (p0.length:Int)))=false) →
   (K (zz0,zz0))))) n0 zz0)))))
set_option maxHeartbeats 4000000 in
theorem w_ground_CheckData_eq (p0:(List (Int×(Int×Int)))) (K:(Int×Int)→Prop):tfn F_ground_CheckData A_ground_CheckData C_ground_CheckData P_ground_CheckData R_ground_CheckData p0 K = w_ground_CheckData p0 K := by kernel_rfl
def st_ground_CheckData_0 (p0:(List (Int×(Int×Int)))) (y1:Int):Int ⊕ (Int×Int) :=
 (cond (decide (y1 < (p0.length:Int))) (cond ((v_first ((s_ground_unless (s_ground_within (p0.getD y1.toNat ((0:Int),((0:Int),(0:Int)))).1 (1:Int) (20:Int)) (2:Int)) :: ((s_ground_unless (cond (s_ground_within (p0.getD y1.toNat ((0:Int),((0:Int),(0:Int)))).2.1 (0:Int) (100000:Int)) (s_ground_within (p0.getD y1.toNat ((0:Int),((0:Int),(0:Int)))).2.2 (0:Int) (100000:Int)) false) (2:Int)) :: ((s_ground_unless (cond (decide ((p0.getD y1.toNat ((0:Int),((0:Int),(0:Int)))).2.1≤(p0.getD y1.toNat ((0:Int),((0:Int),(0:Int)))).2.2)) (cond (y1 == 0) true (decide ((p0.getD y1.toNat ((0:Int),((0:Int),(0:Int)))).1 > (p0.getD (Int.toNat (IntKind.i64.wrap (y1 - 1))) ((0:Int),((0:Int),(0:Int)))).1))) false) (9:Int)) :: ([]:List Int))))) != 0) (Sum.inr (y1,(v_first ((s_ground_unless (s_ground_within (p0.getD y1.toNat ((0:Int),((0:Int),(0:Int)))).1 (1:Int) (20:Int)) (2:Int)) :: ((s_ground_unless (cond (s_ground_within (p0.getD y1.toNat ((0:Int),((0:Int),(0:Int)))).2.1 (0:Int) (100000:Int)) (s_ground_within (p0.getD y1.toNat ((0:Int),((0:Int),(0:Int)))).2.2 (0:Int) (100000:Int)) false) (2:Int)) :: ((s_ground_unless (cond (decide ((p0.getD y1.toNat ((0:Int),((0:Int),(0:Int)))).2.1≤(p0.getD y1.toNat ((0:Int),((0:Int),(0:Int)))).2.2)) (cond (y1 == 0) true (decide ((p0.getD y1.toNat ((0:Int),((0:Int),(0:Int)))).1 > (p0.getD (Int.toNat (IntKind.i64.wrap (y1 - 1))) ((0:Int),((0:Int),(0:Int)))).1))) false) (9:Int)) :: ([]:List Int)))))))
  (Sum.inl (IntKind.i64.wrap (y1 + 1))))
  (Sum.inr ((0:Int),(0:Int))))
abbrev sp_ground_CheckData_0 (p0:(List (Int×(Int×Int)))) (y1:Int):List Prop := [(((decide (y1 < (p0.length:Int)))=true)→((0:Int)≤y1)),
  (((decide (y1 < (p0.length:Int)))=true)→(y1 < (p0.length:Int))),
  (((decide (y1 < (p0.length:Int)))=true)→(((y1 == 0)=false)→((0:Int)≤(IntKind.i64.wrap (y1 - 1))))),
  (((decide (y1 < (p0.length:Int)))=true)→(((y1 == 0)=false)→((IntKind.i64.wrap (y1 - 1)) < (p0.length:Int))))]
def s_ground_CheckData (p0:(List (Int×(Int×Int)))):(Int×Int) :=
 (cond ((v_first ((s_ground_unless (decide ((p0.length:Int) > 0)) (10:Int)) :: ((s_ground_unless (decide ((p0.length:Int)≤6)) (8:Int)) :: ([]:List Int)))) != 0) ((0:Int),(v_first ((s_ground_unless (decide ((p0.length:Int) > 0)) (10:Int)) :: ((s_ground_unless (decide ((p0.length:Int)≤6)) (8:Int)) :: ([]:List Int)))))
  (lpv ((0:Int),(0:Int)) (st_ground_CheckData_0 p0) (0:Int)))
abbrev pre_ground_CheckData (p0:(List (Int×(Int×Int)))):List Prop := [((((v_first ((s_ground_unless (decide ((p0.length:Int) > 0)) (10:Int)) :: ((s_ground_unless (decide ((p0.length:Int)≤6)) (8:Int)) :: ([]:List Int)))) != 0)=false)→(OkL (st_ground_CheckData_0 p0) (sp_ground_CheckData_0 p0) (0:Int)))]
set_option maxHeartbeats 4000000 in
theorem d_ground_CheckData (p0:(List (Int×(Int×Int)))) (K:(Int×Int)→Prop) (hp:∀ p∈pre_ground_CheckData p0,p) (h:K (s_ground_CheckData p0)):w_ground_CheckData p0 K := by
 unfold w_ground_CheckData
 unfold s_ground_CheckData at h
 obtain ⟨hp0,_⟩ := conj_of hp
 exact ⟨(lenOk_of 2 rfl (by decide)),(br' h (fun e0 h => h)
  (fun e0 h => (loop_gen (hp0 e0) h (fun y1 k1 hp h => by
 unfold st_ground_CheckData_0 at h; obtain ⟨hp0,hp1,hp2,hp3,_⟩ := conj_of hp
 exact (br' h (fun e2 h => ⟨(hp0 e2),(hp1 e2),rf,rf,rf,rf,(hp2 e2),(hp3 e2),rf,rf,rf,rf,rfl,rf,rf,rf,rf,rfl,rfl,(lenOk_of 3 rfl (by decide)),(br' h (fun e3 h => h)
  (fun e3 h => h))⟩)
  (fun e2 h => h))))))⟩
theorem tx_cdh {n:Int} (h:0≤n):v_first [s_ground_unless (decide (n > 0)) 10,s_ground_unless (decide (n≤6)) 8]=cond (n == 0) 10 (cond (decide (n > 6)) 8 0) := by
 unfold s_ground_unless
 rcases int0 n with ⟨h0,_,e0⟩ | ⟨h0,_,e0⟩
 ·subst h0; rfl
 ·rw [e0,decide_eq_true (show n > 0 by omega)]
  rcases dec0 (a := 6) (b := n) with ⟨_,_,_,e1,e2⟩ | ⟨_,_,_,e1,e2⟩ <;> rw [e1,e2] <;> rfl
theorem l_ground_CheckData_0 (p0:List (Int×Int×Int)) (hl:lenOk p0):OkL (st_ground_CheckData_0 p0) (sp_ground_CheckData_0 p0) 0∧lpv ((0,0):Int×Int) (st_ground_CheckData_0 p0) 0 = v_scan (v_cd1 p0) ((0,0):Int×Int) 0 p0 := by
 refine scan_is p0 (0,0,0) (v_cd1 p0) ((0,0):Int×Int) hl ?_ ?_
 ·refine ⟨by simp only [sp_ground_CheckData_0,List.forall_mem_cons,decide_eq_true_eq]; simp,by simp [st_ground_CheckData_0]⟩
 ·intro j hj
  have hj' : (j:Int) < p0.length := by omega
  have hw := wrap_nat (show (j:Int)≤9223372036854775806 by unfold lenOk at hl; omega)
  have hw2:IntKind.i64.wrap ((j:Int) - 1)=(j:Int) - 1 := wrap_id (by omega) (by unfold lenOk at hl; omega)
  refine ⟨by simp only [sp_ground_CheckData_0,List.forall_mem_cons,decide_eq_true_eq,Int.toNat_natCast]; rw [hw2]; and_intros <;> first | (intro p hp; cases hp; done) | (intros; first | omega | (simp_all; done) | (simp_all; omega)),?_⟩
  simp only [st_ground_CheckData_0,hj',decide_true,Int.toNat_natCast,cond_true,hw]
  unfold v_cd1
  rw [hw2]
  rcases int0 (j:Int) with ⟨hj0,_,z⟩ | ⟨hj0,_,z⟩ <;> rw [z]
  ·unfold s_ground_unless
   simp only [tx_withinG]
   cases decide ((p0.getD j (0,0,0)).2.1≤(p0.getD j (0,0,0)).2.2) <;> cases s_base_Within (p0.getD j (0,0,0)).1 1 20 <;> cases s_base_Within (p0.getD j (0,0,0)).2.1 0 100000 <;> cases s_base_Within (p0.getD j (0,0,0)).2.2 0 100000 <;> rfl
  ·unfold s_ground_unless
   simp only [tx_withinG]
   cases decide ((p0.getD j (0,0,0)).2.1≤(p0.getD j (0,0,0)).2.2) <;> cases decide ((p0.getD j (0,0,0)).1 > (p0.getD ((j:Int) - 1).toNat (0,0,0)).1) <;> cases s_base_Within (p0.getD j (0,0,0)).1 1 20 <;> cases s_base_Within (p0.getD j (0,0,0)).2.1 0 100000 <;> cases s_base_Within (p0.getD j (0,0,0)).2.2 0 100000 <;> rfl
abbrev t_ground_CheckData (p0:List (Int×Int×Int)):Int×Int := v_cd p0
abbrev qre_ground_CheckData (_p0:List (Int×Int×Int)):List Prop := []
theorem pp_ground_CheckData (p0:List (Int×Int×Int)) (_hq:∀ p∈qre_ground_CheckData p0,p):∀ p∈pre_ground_CheckData p0,p := by
 simp only [pre_ground_CheckData,List.forall_mem_cons]
 refine ⟨fun h => ?_,by simp⟩
 rw [tx_cdh (by omega)] at h
 refine (l_ground_CheckData_0 p0 (lenOk_le (n := 6) ?_ (by decide))).1
 cases c:decide ((p0.length:Int) > 6)
 ·have := of_decide_eq_false c; omega
 ·rw [c] at h
  cases c2:((p0.length:Int) == 0) <;> rw [c2] at h <;> cases h
theorem tt_ground_CheckData (p0:List (Int×Int×Int)) (_hq:∀ p∈qre_ground_CheckData p0,p):s_ground_CheckData p0 = t_ground_CheckData p0 := by
 unfold s_ground_CheckData t_ground_CheckData v_cd
 rw [tx_cdh (by omega)]
 cases h:decide ((p0.length:Int) > 6)
 ·rw [(l_ground_CheckData_0 p0 (lenOk_le (n := 6) (by have := of_decide_eq_false h; omega) (by decide))).2]
  cases ((p0.length:Int) == 0) <;> rfl
 ·cases ((p0.length:Int) == 0) <;> rfl

abbrev con_ground_CheckData:Con := ⟨P_ground_CheckData,R_ground_CheckData,fun x => qre_ground_CheckData x,fun x => t_ground_CheckData x⟩
theorem ok_ground_CheckData:ConOk Try.prog 52 con_ground_CheckData := ⟨k_ground_CheckData,fun x hx => ret_tf (ps := P_ground_CheckData) (rs := R_ground_CheckData) (x := x) (y := t_ground_CheckData x) e_ground_CheckData hC_ground_CheckData (tf_of (w_ground_CheckData_eq x (fun z => z = t_ground_CheckData x)) (d_ground_CheckData x (fun z => z = t_ground_CheckData x) (pp_ground_CheckData x hx) (tt_ground_CheckData x hx)))⟩
/- ground_below -/
def C_ground_below:Cons := []
theorem hC_ground_below:ConsOk Try.prog C_ground_below := ConsOk.nil
def w_ground_below (p0:(Int×Int)) (p1:(Int×(Int×Int))) (K:Bool→Prop):Prop :=
  (K (decide ((IntKind.i64.wrap ((1000:Int) * p0.1)) < (IntKind.i64.wrap (p1.2.1 * p0.2)))))
set_option maxHeartbeats 4000000 in
theorem w_ground_below_eq (p0:(Int×Int)) (p1:(Int×(Int×Int))) (K:Bool→Prop):tfn F_ground_below A_ground_below C_ground_below P_ground_below R_ground_below (p0,p1) K = w_ground_below p0 p1 K := by kernel_rfl
def s_ground_below (p0:(Int×Int)) (p1:(Int×(Int×Int))):Bool :=
 (decide ((IntKind.i64.wrap ((1000:Int) * p0.1)) < (IntKind.i64.wrap (p1.2.1 * p0.2))))
abbrev pre_ground_below (_p0:(Int×Int)) (_p1:(Int×(Int×Int))):List Prop := []
set_option maxHeartbeats 4000000 in
theorem d_ground_below (p0:(Int×Int)) (p1:(Int×(Int×Int))) (K:Bool→Prop) (_hp:∀ p∈pre_ground_below p0 p1,p) (h:K (s_ground_below p0 p1)):w_ground_below p0 p1 K := by
 unfold w_ground_below
 unfold s_ground_below at h
 exact h
/-- Whether a datum is valid,and data. -/
structure v_dok (d:Int×Int×Int):Prop where
 s:v_sok d.1
 lo:0≤d.2.1
 le:d.2.1≤d.2.2
 hi:d.2.2≤100000
structure v_dat (l:List (Int×Int×Int)):Prop where
 len:l.length≤6
 ok:∀ x∈l,v_dok x
theorem tx_cd_ok {l:List (Int×Int×Int)} (h:(v_cd l).2 = 0):v_dat l∧l ≠ [] := by
 unfold v_cd at h
 rcases int0 (l.length:Int) with ⟨_,_,e0⟩ | ⟨h0,_,e0⟩
 ·rw [e0] at h; cases h
 rw [e0] at h
 rcases dec0 (a := 6) (b := (l.length:Int)) with ⟨_,_,_,_,e1⟩ | ⟨h1,_,_,_,e1⟩
 ·rw [e1] at h; cases h
 rw [e1] at h
 simp only [cond_false] at h
 have key := v_scan_end (f := v_cd1 l) (e := ((0,0):Int×Int)) (P := fun (r:Int×Int) => r.2 = 0) l 0 h (fun j x v _ hv hv0 => by
  unfold v_cd1 at hv
  cases c1:cond (s_base_Within x.1 1 20) (cond (s_base_Within x.2.1 0 100000) (s_base_Within x.2.2 0 100000) false) false <;> rw [c1] at hv
  ·simp only [cond_false,Option.some.injEq] at hv; subst hv; cases hv0
  ·cases c2:cond (decide (x.2.1≤x.2.2)) (cond (j == 0) true (decide (x.1 > (l.getD (j - 1).toNat (0,0,0)).1))) false <;> rw [c2] at hv
   ·simp only [cond_true,cond_false,Option.some.injEq] at hv; subst hv; cases hv0
   ·cases hv)
 refine ⟨⟨by omega,fun x hx => ?_⟩,by rintro rfl; exact h0 rfl⟩
 obtain ⟨k,hk,rfl⟩ := List.getElem_of_mem hx
 have h := key k hk
 unfold v_cd1 at h
 cases c1:cond (s_base_Within l[k].1 1 20) (cond (s_base_Within l[k].2.1 0 100000) (s_base_Within l[k].2.2 0 100000) false) false <;> rw [c1] at h
 ·cases h
 ·cases c2:cond (decide (l[k].2.1≤l[k].2.2)) (cond (0 + (k:Int) == 0) true (decide (l[k].1 > (l.getD (0 + (k:Int) - 1).toNat (0,0,0)).1))) false <;> rw [c2] at h
  ·cases h
  ·have c1' : s_base_Within l[k].1 1 20 = true∧s_base_Within l[k].2.1 0 100000 = true∧s_base_Within l[k].2.2 0 100000 = true := by
    cases g1:s_base_Within l[k].1 1 20 <;> cases g2:s_base_Within l[k].2.1 0 100000 <;> cases g3:s_base_Within l[k].2.2 0 100000 <;> simp_all
   have c2' : l[k].2.1≤l[k].2.2 := by
    cases g:decide (l[k].2.1≤l[k].2.2)
    ·rw [g] at c2; cases c2
    ·exact of_decide_eq_true g
   exact ⟨tx_within.1 c1'.1,(tx_within.1 c1'.2.1).1,c2',(tx_within.1 c1'.2.2).2⟩
/-- A response of a valid model. -/
structure v_rsm (f:Int×Int):Prop where
 d:0 < f.2∧f.2≤512000000
 n:0 < f.1∧f.1≤20 * f.2
theorem v_rsm_of {l:List (Int×Int)} {s:Int} (h:v_mok l) (hs:v_sok s):v_rsm (v_frac (v_resp s l)) := by
 have := v_resp_small hs h
 exact ⟨by omega,by omega⟩
def v_below (p0:Int×Int) (p1:Int×Int×Int):Bool := decide (1000 * p0.1 < p1.2.1 * p0.2)
abbrev t_ground_below (p0:Int×Int) (p1:Int×Int×Int):Bool := v_below p0 p1
abbrev qre_ground_below (p0:Int×Int) (p1:Int×Int×Int):List Prop := [v_rsm p0,v_dok p1]
theorem pp_ground_below (p0:Int×Int) (p1:Int×Int×Int) (_hq:∀ p∈qre_ground_below p0 p1,p):∀ p∈pre_ground_below p0 p1,p := by
 simp [pre_ground_below]
theorem tt_ground_below (p0:Int×Int) (p1:Int×Int×Int) (hq:∀ p∈qre_ground_below p0 p1,p):s_ground_below p0 p1 = t_ground_below p0 p1 := by
 obtain ⟨h1,h2,_⟩ := conj_of hq
 have hd := h1.d
 have hn := h1.n
 have ha := h2.lo
 have hb := h2.le
 have hc := h2.hi
 unfold s_ground_below t_ground_below v_below
 have m := mul_in (x := p1.2.1) (y := p0.2) (by omega) (show p1.2.1≤100000 by omega) (by omega) hd.2
 rw [wrap_id (n := 1000 * p0.1) (by omega) (by omega),wrap_id (n := p1.2.1 * p0.2) (by omega) (by omega)]

abbrev con_ground_below:Con := ⟨P_ground_below,R_ground_below,fun x => qre_ground_below x.1 x.2,fun x => t_ground_below x.1 x.2⟩
theorem ok_ground_below:ConOk Try.prog 102 con_ground_below := ⟨k_ground_below,fun x hx => ret_tf (ps := P_ground_below) (rs := R_ground_below) (x := x) (y := t_ground_below x.1 x.2) e_ground_below hC_ground_below (tf_of (w_ground_below_eq x.1 x.2 (fun z => z = t_ground_below x.1 x.2)) (d_ground_below x.1 x.2 (fun z => z = t_ground_below x.1 x.2) (pp_ground_below x.1 x.2 hx) (tt_ground_below x.1 x.2 hx)))⟩
/- ground_beyond -/
def C_ground_beyond:Cons := []
theorem hC_ground_beyond:ConsOk Try.prog C_ground_beyond := ConsOk.nil
def w_ground_beyond (p0:(Int×Int)) (p1:(Int×(Int×Int))) (K:Bool→Prop):Prop :=
  (K (decide ((IntKind.i64.wrap ((1000:Int) * p0.1)) > (IntKind.i64.wrap (p1.2.2 * p0.2)))))
set_option maxHeartbeats 4000000 in
theorem w_ground_beyond_eq (p0:(Int×Int)) (p1:(Int×(Int×Int))) (K:Bool→Prop):tfn F_ground_beyond A_ground_beyond C_ground_beyond P_ground_beyond R_ground_beyond (p0,p1) K = w_ground_beyond p0 p1 K := by kernel_rfl
def s_ground_beyond (p0:(Int×Int)) (p1:(Int×(Int×Int))):Bool :=
 (decide ((IntKind.i64.wrap ((1000:Int) * p0.1)) > (IntKind.i64.wrap (p1.2.2 * p0.2))))
abbrev pre_ground_beyond (_p0:(Int×Int)) (_p1:(Int×(Int×Int))):List Prop := []
set_option maxHeartbeats 4000000 in
theorem d_ground_beyond (p0:(Int×Int)) (p1:(Int×(Int×Int))) (K:Bool→Prop) (_hp:∀ p∈pre_ground_beyond p0 p1,p) (h:K (s_ground_beyond p0 p1)):w_ground_beyond p0 p1 K := by
 unfold w_ground_beyond
 unfold s_ground_beyond at h
 exact h
def v_beyond (p0:Int×Int) (p1:Int×Int×Int):Bool := decide (1000 * p0.1 > p1.2.2 * p0.2)
abbrev t_ground_beyond (p0:Int×Int) (p1:Int×Int×Int):Bool := v_beyond p0 p1
abbrev qre_ground_beyond (p0:Int×Int) (p1:Int×Int×Int):List Prop := [v_rsm p0,v_dok p1]
theorem pp_ground_beyond (p0:Int×Int) (p1:Int×Int×Int) (_hq:∀ p∈qre_ground_beyond p0 p1,p):∀ p∈pre_ground_beyond p0 p1,p := by
 simp [pre_ground_beyond]
theorem tt_ground_beyond (p0:Int×Int) (p1:Int×Int×Int) (hq:∀ p∈qre_ground_beyond p0 p1,p):s_ground_beyond p0 p1 = t_ground_beyond p0 p1 := by
 obtain ⟨h1,h2,_⟩ := conj_of hq
 have hd := h1.d
 have hn := h1.n
 have ha := h2.lo
 have hb := h2.le
 have hc := h2.hi
 unfold s_ground_beyond t_ground_beyond v_beyond
 have m := mul_in (x := p1.2.2) (y := p0.2) (by omega) (show p1.2.2≤100000 by omega) (by omega) hd.2
 rw [wrap_id (n := 1000 * p0.1) (by omega) (by omega),wrap_id (n := p1.2.2 * p0.2) (by omega) (by omega)]

abbrev con_ground_beyond:Con := ⟨P_ground_beyond,R_ground_beyond,fun x => qre_ground_beyond x.1 x.2,fun x => t_ground_beyond x.1 x.2⟩
theorem ok_ground_beyond:ConOk Try.prog 103 con_ground_beyond := ⟨k_ground_beyond,fun x hx => ret_tf (ps := P_ground_beyond) (rs := R_ground_beyond) (x := x) (y := t_ground_beyond x.1 x.2) e_ground_beyond hC_ground_beyond (tf_of (w_ground_beyond_eq x.1 x.2 (fun z => z = t_ground_beyond x.1 x.2)) (d_ground_beyond x.1 x.2 (fun z => z = t_ground_beyond x.1 x.2) (pp_ground_beyond x.1 x.2 hx) (tt_ground_beyond x.1 x.2 hx)))⟩
/- ground_explains -/
def C_ground_explains:Cons := [(79,[],con_ground_response),(102,[],con_ground_below),(103,[],con_ground_beyond)]
theorem hC_ground_explains:ConsOk Try.prog C_ground_explains := ConsOk.cons ok_ground_response <| ConsOk.cons ok_ground_below <| ConsOk.cons ok_ground_beyond <| ConsOk.nil
def w_ground_explains (p0:(List (Int×Int))) (p1:(Int×(Int×Int))) (K:Bool→Prop):Prop :=
  ((v_mok p0) ∧
 ((v_sok p1.1) ∧
 ((v_rsm (v_frac (v_resp p1.1 p0))) ∧
 ((v_dok p1) ∧
 ((((!(v_below (v_frac (v_resp p1.1 p0)) p1))=true) →
 ((!(v_below (v_frac (v_resp p1.1 p0)) p1))=(!(v_below (v_frac (v_resp p1.1 p0)) p1)))) ∧
 ((((!(v_below (v_frac (v_resp p1.1 p0)) p1))=true) →
 ((!(v_below (v_frac (v_resp p1.1 p0)) p1))=(!(v_below (v_frac (v_resp p1.1 p0)) p1)))) ∧
 ((((!(v_below (v_frac (v_resp p1.1 p0)) p1))=true) →
 (v_rsm (v_frac (v_resp p1.1 p0)))) ∧
 ((((!(v_below (v_frac (v_resp p1.1 p0)) p1))=true) →
 (v_dok p1)) ∧
 ((((!(v_below (v_frac (v_resp p1.1 p0)) p1))=true) →
 ((!(v_below (v_frac (v_resp p1.1 p0)) p1))=(!(v_below (v_frac (v_resp p1.1 p0)) p1)))) ∧
 (((!(v_below (v_frac (v_resp p1.1 p0)) p1))=(!(v_below (v_frac (v_resp p1.1 p0)) p1))) ∧
 (K (cond (!(v_below (v_frac (v_resp p1.1 p0)) p1)) (!(v_beyond (v_frac (v_resp p1.1 p0)) p1)) false))))))))))))
set_option maxHeartbeats 4000000 in
theorem w_ground_explains_eq (p0:(List (Int×Int))) (p1:(Int×(Int×Int))) (K:Bool→Prop):tfn F_ground_explains A_ground_explains C_ground_explains P_ground_explains R_ground_explains (p0,p1) K = w_ground_explains p0 p1 K := by kernel_rfl
def s_ground_explains (p0:(List (Int×Int))) (p1:(Int×(Int×Int))):Bool :=
 (cond (!(v_below (v_frac (v_resp p1.1 p0)) p1)) (!(v_beyond (v_frac (v_resp p1.1 p0)) p1)) false)
abbrev pre_ground_explains (p0:(List (Int×Int))) (p1:(Int×(Int×Int))):List Prop := [(v_mok p0),
  (v_sok p1.1),
  (v_rsm (v_frac (v_resp p1.1 p0))),
  (v_dok p1),
  (((!(v_below (v_frac (v_resp p1.1 p0)) p1))=true)→(v_rsm (v_frac (v_resp p1.1 p0)))),
  (((!(v_below (v_frac (v_resp p1.1 p0)) p1))=true)→(v_dok p1))]
set_option maxHeartbeats 4000000 in
theorem d_ground_explains (p0:(List (Int×Int))) (p1:(Int×(Int×Int))) (K:Bool→Prop) (hp:∀ p∈pre_ground_explains p0 p1,p) (h:K (s_ground_explains p0 p1)):w_ground_explains p0 p1 K := by
 unfold w_ground_explains
 unfold s_ground_explains at h
 obtain ⟨hp0,hp1,hp2,hp3,hp4,hp5,_⟩ := conj_of hp
 exact ⟨(hp0),(hp1),(hp2),(hp3),rf,rf,(hp4),(hp5),rf,rfl,h⟩
/-- Whether a model explains a datum; data. -/
def v_ex (l:List (Int×Int)) (d:Int×Int×Int):Bool := cond (!(v_below (v_frac (v_resp d.1 l)) d)) (!(v_beyond (v_frac (v_resp d.1 l)) d)) false
def v_exAll (m:List (Int×Int)) (l:List (Int×Int×Int)):Bool := l.all (v_ex m)
def v_exAny (m:List (Int×Int)) (l:List (Int×Int×Int)):Bool := l.any fun d => !(v_ex m d)
def v_exIdx (m:List (Int×Int)) (l:List (Int×Int×Int)):Int := v_scan (fun i x => cond (!(v_ex m x)) (some i) none) (-1) 0 l
abbrev t_ground_explains (p0:List (Int×Int)) (p1:Int×Int×Int):Bool := v_ex p0 p1
abbrev qre_ground_explains (p0:List (Int×Int)) (p1:Int×Int×Int):List Prop := [v_mok p0,v_dok p1]
theorem pp_ground_explains (p0:List (Int×Int)) (p1:Int×Int×Int) (hq:∀ p∈qre_ground_explains p0 p1,p):∀ p∈pre_ground_explains p0 p1,p := by
 obtain ⟨h1,h2,_⟩ := conj_of hq
 simp only [pre_ground_explains,List.forall_mem_cons]
 and_intros
 all_goals first | (intro p hp; cases hp; done) | exact h1 | exact h2.s.1 | exact h2.s.2 | exact h2 | exact v_rsm_of h1 h2.s | (intros; first | exact h2 | exact v_rsm_of h1 h2.s)
theorem tt_ground_explains (p0:List (Int×Int)) (p1:Int×Int×Int) (_hq:∀ p∈qre_ground_explains p0 p1,p):s_ground_explains p0 p1 = t_ground_explains p0 p1 := by
 rfl

abbrev con_ground_explains:Con := ⟨P_ground_explains,R_ground_explains,fun x => qre_ground_explains x.1 x.2,fun x => t_ground_explains x.1 x.2⟩
theorem ok_ground_explains:ConOk Try.prog 137 con_ground_explains := ⟨k_ground_explains,fun x hx => ret_tf (ps := P_ground_explains) (rs := R_ground_explains) (x := x) (y := t_ground_explains x.1 x.2) e_ground_explains hC_ground_explains (tf_of (w_ground_explains_eq x.1 x.2 (fun z => z = t_ground_explains x.1 x.2)) (d_ground_explains x.1 x.2 (fun z => z = t_ground_explains x.1 x.2) (pp_ground_explains x.1 x.2 hx) (tt_ground_explains x.1 x.2 hx)))⟩
/- ground_explainsAll_1 -/
def C_ground_explainsAll_1:Cons := [(137,[],con_ground_explains)]
theorem hC_ground_explainsAll_1:ConsOk Try.prog C_ground_explainsAll_1 := ConsOk.cons ok_ground_explains <| ConsOk.nil
def w_ground_explainsAll_1 (p0:(Int×(Int×Int))) (p1:(List (Int×Int))) (K:Bool→Prop):Prop :=
  ((v_mok p1) ∧
 ((v_dok p0) ∧
 (K (!(v_ex p1 p0)))))
set_option maxHeartbeats 4000000 in
theorem w_ground_explainsAll_1_eq (p0:(Int×(Int×Int))) (p1:(List (Int×Int))) (K:Bool→Prop):tfn F_ground_explainsAll_1 A_ground_explainsAll_1 C_ground_explainsAll_1 P_ground_explainsAll_1 R_ground_explainsAll_1 (p0,p1) K = w_ground_explainsAll_1 p0 p1 K := by kernel_rfl
def s_ground_explainsAll_1 (p0:(Int×(Int×Int))) (p1:(List (Int×Int))):Bool :=
 (!(v_ex p1 p0))
abbrev pre_ground_explainsAll_1 (p0:(Int×(Int×Int))) (p1:(List (Int×Int))):List Prop := [(v_mok p1),
  (v_dok p0)]
set_option maxHeartbeats 4000000 in
theorem d_ground_explainsAll_1 (p0:(Int×(Int×Int))) (p1:(List (Int×Int))) (K:Bool→Prop) (hp:∀ p∈pre_ground_explainsAll_1 p0 p1,p) (h:K (s_ground_explainsAll_1 p0 p1)):w_ground_explainsAll_1 p0 p1 K := by
 unfold w_ground_explainsAll_1
 unfold s_ground_explainsAll_1 at h
 obtain ⟨hp0,hp1,_⟩ := conj_of hp
 exact ⟨(hp0),(hp1),h⟩
abbrev con_ground_explainsAll_1:Con := ⟨P_ground_explainsAll_1,R_ground_explainsAll_1,fun x => pre_ground_explainsAll_1 x.1 x.2,fun x => s_ground_explainsAll_1 x.1 x.2⟩
theorem ok_ground_explainsAll_1:ConOk Try.prog 136 con_ground_explainsAll_1 := ⟨k_ground_explainsAll_1,fun x hx => ret_tf (ps := P_ground_explainsAll_1) (rs := R_ground_explainsAll_1) (x := x) (y := s_ground_explainsAll_1 x.1 x.2) e_ground_explainsAll_1 hC_ground_explainsAll_1 (tf_of (w_ground_explainsAll_1_eq x.1 x.2 (fun z => z = s_ground_explainsAll_1 x.1 x.2)) (d_ground_explainsAll_1 x.1 x.2 (fun z => z = s_ground_explainsAll_1 x.1 x.2) hx rfl))⟩
/- slices_IndexFuncapi_GroundDatum_api_GroundDatum__ground_explainsAll_1 -/
def C_slices_IndexFuncapi_GroundDatum_api_GroundDatum__ground_explainsAll_1:Cons := [(136,[],con_ground_explainsAll_1)]
theorem hC_slices_IndexFuncapi_GroundDatum_api_GroundDatum__ground_explainsAll_1:ConsOk Try.prog C_slices_IndexFuncapi_GroundDatum_api_GroundDatum__ground_explainsAll_1 := ConsOk.cons ok_ground_explainsAll_1 <| ConsOk.nil
def w_slices_IndexFuncapi_GroundDatum_api_GroundDatum__ground_explainsAll_1 (p0:(List (Int×(Int×Int)))) (p1:((List (Int×Int))×PUnit)) (K:Int→Prop):Prop :=
  (∃ n0,(loopP (fun (y1:Int) k2 =>
  ((((decide (y1 < (p0.length:Int)))=true) →
  (((0:Int)≤y1) ∧
   ((y1 < (p0.length:Int)) ∧
   ((v_mok p1.1) ∧
   ((v_dok (p0.getD y1.toNat ((0:Int),((0:Int),(0:Int))))) ∧
   ((((!(v_ex p1.1 (p0.getD y1.toNat ((0:Int),((0:Int),(0:Int))))))=true) →
   (K y1)) ∧
   (((!(v_ex p1.1 (p0.getD y1.toNat ((0:Int),((0:Int),(0:Int))))))=false) →
   (k2 (IntKind.i64.wrap (y1 + 1)))))))))) ∧
  (((decide (y1 < (p0.length:Int)))=false) →
  (K (-1:Int))))) n0 (0:Int)))
set_option maxHeartbeats 4000000 in
theorem w_slices_IndexFuncapi_GroundDatum_api_GroundDatum__ground_explainsAll_1_eq (p0:(List (Int×(Int×Int)))) (p1:((List (Int×Int))×PUnit)) (K:Int→Prop):tfn F_slices_IndexFuncapi_GroundDatum_api_GroundDatum__ground_explainsAll_1 A_slices_IndexFuncapi_GroundDatum_api_GroundDatum__ground_explainsAll_1 C_slices_IndexFuncapi_GroundDatum_api_GroundDatum__ground_explainsAll_1 P_slices_IndexFuncapi_GroundDatum_api_GroundDatum__ground_explainsAll_1 R_slices_IndexFuncapi_GroundDatum_api_GroundDatum__ground_explainsAll_1 (p0,p1) K = w_slices_IndexFuncapi_GroundDatum_api_GroundDatum__ground_explainsAll_1 p0 p1 K := by kernel_rfl
def st_slices_IndexFuncapi_GroundDatum_api_GroundDatum__ground_explainsAll_1_0 (p0:(List (Int×(Int×Int)))) (p1:((List (Int×Int))×PUnit)) (y0:Int):Int ⊕ Int :=
 (cond (decide (y0 < (p0.length:Int))) (cond (!(v_ex p1.1 (p0.getD y0.toNat ((0:Int),((0:Int),(0:Int)))))) (Sum.inr y0)
  (Sum.inl (IntKind.i64.wrap (y0 + 1))))
  (Sum.inr (-1:Int)))
abbrev sp_slices_IndexFuncapi_GroundDatum_api_GroundDatum__ground_explainsAll_1_0 (p0:(List (Int×(Int×Int)))) (p1:((List (Int×Int))×PUnit)) (y0:Int):List Prop := [(((decide (y0 < (p0.length:Int)))=true)→((0:Int)≤y0)),
  (((decide (y0 < (p0.length:Int)))=true)→(y0 < (p0.length:Int))),
  (((decide (y0 < (p0.length:Int)))=true)→(v_mok p1.1)),
  (((decide (y0 < (p0.length:Int)))=true)→(v_dok (p0.getD y0.toNat ((0:Int),((0:Int),(0:Int))))))]
def s_slices_IndexFuncapi_GroundDatum_api_GroundDatum__ground_explainsAll_1 (p0:(List (Int×(Int×Int)))) (p1:((List (Int×Int))×PUnit)):Int :=
 (lpv (0:Int) (st_slices_IndexFuncapi_GroundDatum_api_GroundDatum__ground_explainsAll_1_0 p0 p1) (0:Int))
abbrev pre_slices_IndexFuncapi_GroundDatum_api_GroundDatum__ground_explainsAll_1 (p0:(List (Int×(Int×Int)))) (p1:((List (Int×Int))×PUnit)):List Prop := [(OkL (st_slices_IndexFuncapi_GroundDatum_api_GroundDatum__ground_explainsAll_1_0 p0 p1) (sp_slices_IndexFuncapi_GroundDatum_api_GroundDatum__ground_explainsAll_1_0 p0 p1) (0:Int))]
set_option maxHeartbeats 4000000 in
theorem d_slices_IndexFuncapi_GroundDatum_api_GroundDatum__ground_explainsAll_1 (p0:(List (Int×(Int×Int)))) (p1:((List (Int×Int))×PUnit)) (K:Int→Prop) (hp:∀ p∈pre_slices_IndexFuncapi_GroundDatum_api_GroundDatum__ground_explainsAll_1 p0 p1,p) (h:K (s_slices_IndexFuncapi_GroundDatum_api_GroundDatum__ground_explainsAll_1 p0 p1)):w_slices_IndexFuncapi_GroundDatum_api_GroundDatum__ground_explainsAll_1 p0 p1 K := by
 unfold w_slices_IndexFuncapi_GroundDatum_api_GroundDatum__ground_explainsAll_1
 unfold s_slices_IndexFuncapi_GroundDatum_api_GroundDatum__ground_explainsAll_1 at h
 obtain ⟨hp0,_⟩ := conj_of hp
 exact (loop_gen (hp0) h (fun y0 k0 hp h => by
 unfold st_slices_IndexFuncapi_GroundDatum_api_GroundDatum__ground_explainsAll_1_0 at h; obtain ⟨hp0,hp1,hp2,hp3,_⟩ := conj_of hp
 exact (br' h (fun e1 h => ⟨(hp0 e1),(hp1 e1),(hp2 e1),(hp3 e1),(br' h (fun e2 h => h)
  (fun e2 h => h))⟩)
  (fun e1 h => h))))
theorem l_slices_IndexFuncapi_GroundDatum_api_GroundDatum__ground_explainsAll_1_0 (p0:List (Int×Int×Int)) (p1:(List (Int×Int))×PUnit) (hl:lenOk p0) (h1:v_mok p1.1) (h2:v_dat p0):OkL (st_slices_IndexFuncapi_GroundDatum_api_GroundDatum__ground_explainsAll_1_0 p0 p1) (sp_slices_IndexFuncapi_GroundDatum_api_GroundDatum__ground_explainsAll_1_0 p0 p1) 0∧lpv (0:Int) (st_slices_IndexFuncapi_GroundDatum_api_GroundDatum__ground_explainsAll_1_0 p0 p1) 0 = v_scan (fun i x => cond (!(v_ex p1.1 x)) (some i) none) (-1:Int) 0 p0 := by
 refine scan_is p0 (0,0,0) (fun i x => cond (!(v_ex p1.1 x)) (some i) none) (-1:Int) hl ?_ ?_
 ·refine ⟨by simp only [sp_slices_IndexFuncapi_GroundDatum_api_GroundDatum__ground_explainsAll_1_0,List.forall_mem_cons,decide_eq_true_eq]; simp,by simp [st_slices_IndexFuncapi_GroundDatum_api_GroundDatum__ground_explainsAll_1_0]⟩
 ·intro j hj
  have hj' : (j:Int) < p0.length := by omega
  have hw := wrap_nat (show (j:Int)≤9223372036854775806 by unfold lenOk at hl; omega)
  have hd := h2.ok _ (getD_mem' (0,0,0) hj)
  refine ⟨by simp only [sp_slices_IndexFuncapi_GroundDatum_api_GroundDatum__ground_explainsAll_1_0,List.forall_mem_cons,decide_eq_true_eq,Int.toNat_natCast]; and_intros <;> first | (intro p hp; cases hp; done) | (intros; first | omega | assumption),?_⟩
  simp only [st_slices_IndexFuncapi_GroundDatum_api_GroundDatum__ground_explainsAll_1_0,hj',decide_true,Int.toNat_natCast,cond_true,hw]
  cases v_ex p1.1 (p0.getD j (0,0,0)) <;> rfl
abbrev t_slices_IndexFuncapi_GroundDatum_api_GroundDatum__ground_explainsAll_1 (p0:List (Int×Int×Int)) (p1:(List (Int×Int))×PUnit):Int := v_exIdx p1.1 p0
abbrev qre_slices_IndexFuncapi_GroundDatum_api_GroundDatum__ground_explainsAll_1 (p0:List (Int×Int×Int)) (p1:(List (Int×Int))×PUnit):List Prop := [v_mok p1.1,v_dat p0]
theorem pp_slices_IndexFuncapi_GroundDatum_api_GroundDatum__ground_explainsAll_1 (p0:List (Int×Int×Int)) (p1:(List (Int×Int))×PUnit) (hq:∀ p∈qre_slices_IndexFuncapi_GroundDatum_api_GroundDatum__ground_explainsAll_1 p0 p1,p):∀ p∈pre_slices_IndexFuncapi_GroundDatum_api_GroundDatum__ground_explainsAll_1 p0 p1,p := by
 obtain ⟨h1,h2,_⟩ := conj_of hq
 simp only [pre_slices_IndexFuncapi_GroundDatum_api_GroundDatum__ground_explainsAll_1,List.forall_mem_cons]
 exact ⟨(l_slices_IndexFuncapi_GroundDatum_api_GroundDatum__ground_explainsAll_1_0 p0 p1 (lenOk_le h2.len (by decide)) h1 h2).1,by simp⟩
theorem tt_slices_IndexFuncapi_GroundDatum_api_GroundDatum__ground_explainsAll_1 (p0:List (Int×Int×Int)) (p1:(List (Int×Int))×PUnit) (hq:∀ p∈qre_slices_IndexFuncapi_GroundDatum_api_GroundDatum__ground_explainsAll_1 p0 p1,p):s_slices_IndexFuncapi_GroundDatum_api_GroundDatum__ground_explainsAll_1 p0 p1 = t_slices_IndexFuncapi_GroundDatum_api_GroundDatum__ground_explainsAll_1 p0 p1 := by
 obtain ⟨h1,h2,_⟩ := conj_of hq
 exact (l_slices_IndexFuncapi_GroundDatum_api_GroundDatum__ground_explainsAll_1_0 p0 p1 (lenOk_le h2.len (by decide)) h1 h2).2

abbrev con_slices_IndexFuncapi_GroundDatum_api_GroundDatum__ground_explainsAll_1:Con := ⟨P_slices_IndexFuncapi_GroundDatum_api_GroundDatum__ground_explainsAll_1,R_slices_IndexFuncapi_GroundDatum_api_GroundDatum__ground_explainsAll_1,fun x => qre_slices_IndexFuncapi_GroundDatum_api_GroundDatum__ground_explainsAll_1 x.1 x.2,fun x => t_slices_IndexFuncapi_GroundDatum_api_GroundDatum__ground_explainsAll_1 x.1 x.2⟩
theorem ok_slices_IndexFuncapi_GroundDatum_api_GroundDatum__ground_explainsAll_1:ConOk Try.prog 154 con_slices_IndexFuncapi_GroundDatum_api_GroundDatum__ground_explainsAll_1 := ⟨k_slices_IndexFuncapi_GroundDatum_api_GroundDatum__ground_explainsAll_1,fun x hx => ret_tf (ps := P_slices_IndexFuncapi_GroundDatum_api_GroundDatum__ground_explainsAll_1) (rs := R_slices_IndexFuncapi_GroundDatum_api_GroundDatum__ground_explainsAll_1) (x := x) (y := t_slices_IndexFuncapi_GroundDatum_api_GroundDatum__ground_explainsAll_1 x.1 x.2) e_slices_IndexFuncapi_GroundDatum_api_GroundDatum__ground_explainsAll_1 hC_slices_IndexFuncapi_GroundDatum_api_GroundDatum__ground_explainsAll_1 (tf_of (w_slices_IndexFuncapi_GroundDatum_api_GroundDatum__ground_explainsAll_1_eq x.1 x.2 (fun z => z = t_slices_IndexFuncapi_GroundDatum_api_GroundDatum__ground_explainsAll_1 x.1 x.2)) (d_slices_IndexFuncapi_GroundDatum_api_GroundDatum__ground_explainsAll_1 x.1 x.2 (fun z => z = t_slices_IndexFuncapi_GroundDatum_api_GroundDatum__ground_explainsAll_1 x.1 x.2) (pp_slices_IndexFuncapi_GroundDatum_api_GroundDatum__ground_explainsAll_1 x.1 x.2 hx) (tt_slices_IndexFuncapi_GroundDatum_api_GroundDatum__ground_explainsAll_1 x.1 x.2 hx)))⟩
/- slices_ContainsFuncapi_GroundDatum_api_GroundDatum__ground_explainsAll_1 -/
def C_slices_ContainsFuncapi_GroundDatum_api_GroundDatum__ground_explainsAll_1:Cons := [(154,[136],con_slices_IndexFuncapi_GroundDatum_api_GroundDatum__ground_explainsAll_1)]
theorem hC_slices_ContainsFuncapi_GroundDatum_api_GroundDatum__ground_explainsAll_1:ConsOk Try.prog C_slices_ContainsFuncapi_GroundDatum_api_GroundDatum__ground_explainsAll_1 := ConsOk.cons ok_slices_IndexFuncapi_GroundDatum_api_GroundDatum__ground_explainsAll_1 <| ConsOk.nil
def w_slices_ContainsFuncapi_GroundDatum_api_GroundDatum__ground_explainsAll_1 (p0:(List (Int×(Int×Int)))) (p1:((List (Int×Int))×PUnit)) (K:Bool→Prop):Prop :=
  ((v_mok p1.1) ∧
 ((v_dat p0) ∧
 (K (decide ((v_exIdx p1.1 p0) ≥ 0)))))
set_option maxHeartbeats 4000000 in
theorem w_slices_ContainsFuncapi_GroundDatum_api_GroundDatum__ground_explainsAll_1_eq (p0:(List (Int×(Int×Int)))) (p1:((List (Int×Int))×PUnit)) (K:Bool→Prop):tfn F_slices_ContainsFuncapi_GroundDatum_api_GroundDatum__ground_explainsAll_1 A_slices_ContainsFuncapi_GroundDatum_api_GroundDatum__ground_explainsAll_1 C_slices_ContainsFuncapi_GroundDatum_api_GroundDatum__ground_explainsAll_1 P_slices_ContainsFuncapi_GroundDatum_api_GroundDatum__ground_explainsAll_1 R_slices_ContainsFuncapi_GroundDatum_api_GroundDatum__ground_explainsAll_1 (p0,p1) K = w_slices_ContainsFuncapi_GroundDatum_api_GroundDatum__ground_explainsAll_1 p0 p1 K := by kernel_rfl
def s_slices_ContainsFuncapi_GroundDatum_api_GroundDatum__ground_explainsAll_1 (p0:(List (Int×(Int×Int)))) (p1:((List (Int×Int))×PUnit)):Bool :=
 (decide ((v_exIdx p1.1 p0) ≥ 0))
abbrev pre_slices_ContainsFuncapi_GroundDatum_api_GroundDatum__ground_explainsAll_1 (p0:(List (Int×(Int×Int)))) (p1:((List (Int×Int))×PUnit)):List Prop := [(v_mok p1.1),
  (v_dat p0)]
set_option maxHeartbeats 4000000 in
theorem d_slices_ContainsFuncapi_GroundDatum_api_GroundDatum__ground_explainsAll_1 (p0:(List (Int×(Int×Int)))) (p1:((List (Int×Int))×PUnit)) (K:Bool→Prop) (hp:∀ p∈pre_slices_ContainsFuncapi_GroundDatum_api_GroundDatum__ground_explainsAll_1 p0 p1,p) (h:K (s_slices_ContainsFuncapi_GroundDatum_api_GroundDatum__ground_explainsAll_1 p0 p1)):w_slices_ContainsFuncapi_GroundDatum_api_GroundDatum__ground_explainsAll_1 p0 p1 K := by
 unfold w_slices_ContainsFuncapi_GroundDatum_api_GroundDatum__ground_explainsAll_1
 unfold s_slices_ContainsFuncapi_GroundDatum_api_GroundDatum__ground_explainsAll_1 at h
 obtain ⟨hp0,hp1,_⟩ := conj_of hp
 exact ⟨(hp0),(hp1),h⟩
abbrev t_slices_ContainsFuncapi_GroundDatum_api_GroundDatum__ground_explainsAll_1 (p0:List (Int×Int×Int)) (p1:(List (Int×Int))×PUnit):Bool := v_exAny p1.1 p0
abbrev qre_slices_ContainsFuncapi_GroundDatum_api_GroundDatum__ground_explainsAll_1 (p0:List (Int×Int×Int)) (p1:(List (Int×Int))×PUnit):List Prop := [v_mok p1.1,v_dat p0]
theorem pp_slices_ContainsFuncapi_GroundDatum_api_GroundDatum__ground_explainsAll_1 (p0:List (Int×Int×Int)) (p1:(List (Int×Int))×PUnit) (hq:∀ p∈qre_slices_ContainsFuncapi_GroundDatum_api_GroundDatum__ground_explainsAll_1 p0 p1,p):∀ p∈pre_slices_ContainsFuncapi_GroundDatum_api_GroundDatum__ground_explainsAll_1 p0 p1,p := by
 simpa only [pre_slices_ContainsFuncapi_GroundDatum_api_GroundDatum__ground_explainsAll_1] using hq
theorem tt_slices_ContainsFuncapi_GroundDatum_api_GroundDatum__ground_explainsAll_1 (p0:List (Int×Int×Int)) (p1:(List (Int×Int))×PUnit) (_hq:∀ p∈qre_slices_ContainsFuncapi_GroundDatum_api_GroundDatum__ground_explainsAll_1 p0 p1,p):s_slices_ContainsFuncapi_GroundDatum_api_GroundDatum__ground_explainsAll_1 p0 p1 = t_slices_ContainsFuncapi_GroundDatum_api_GroundDatum__ground_explainsAll_1 p0 p1 := by
 exact v_scan_idx p0 0 (Int.le_refl 0)

abbrev con_slices_ContainsFuncapi_GroundDatum_api_GroundDatum__ground_explainsAll_1:Con := ⟨P_slices_ContainsFuncapi_GroundDatum_api_GroundDatum__ground_explainsAll_1,R_slices_ContainsFuncapi_GroundDatum_api_GroundDatum__ground_explainsAll_1,fun x => qre_slices_ContainsFuncapi_GroundDatum_api_GroundDatum__ground_explainsAll_1 x.1 x.2,fun x => t_slices_ContainsFuncapi_GroundDatum_api_GroundDatum__ground_explainsAll_1 x.1 x.2⟩
theorem ok_slices_ContainsFuncapi_GroundDatum_api_GroundDatum__ground_explainsAll_1:ConOk Try.prog 135 con_slices_ContainsFuncapi_GroundDatum_api_GroundDatum__ground_explainsAll_1 := ⟨k_slices_ContainsFuncapi_GroundDatum_api_GroundDatum__ground_explainsAll_1,fun x hx => ret_tf (ps := P_slices_ContainsFuncapi_GroundDatum_api_GroundDatum__ground_explainsAll_1) (rs := R_slices_ContainsFuncapi_GroundDatum_api_GroundDatum__ground_explainsAll_1) (x := x) (y := t_slices_ContainsFuncapi_GroundDatum_api_GroundDatum__ground_explainsAll_1 x.1 x.2) e_slices_ContainsFuncapi_GroundDatum_api_GroundDatum__ground_explainsAll_1 hC_slices_ContainsFuncapi_GroundDatum_api_GroundDatum__ground_explainsAll_1 (tf_of (w_slices_ContainsFuncapi_GroundDatum_api_GroundDatum__ground_explainsAll_1_eq x.1 x.2 (fun z => z = t_slices_ContainsFuncapi_GroundDatum_api_GroundDatum__ground_explainsAll_1 x.1 x.2)) (d_slices_ContainsFuncapi_GroundDatum_api_GroundDatum__ground_explainsAll_1 x.1 x.2 (fun z => z = t_slices_ContainsFuncapi_GroundDatum_api_GroundDatum__ground_explainsAll_1 x.1 x.2) (pp_slices_ContainsFuncapi_GroundDatum_api_GroundDatum__ground_explainsAll_1 x.1 x.2 hx) (tt_slices_ContainsFuncapi_GroundDatum_api_GroundDatum__ground_explainsAll_1 x.1 x.2 hx)))⟩
/- ground_explainsAll -/
def C_ground_explainsAll:Cons := [(135,[136],con_slices_ContainsFuncapi_GroundDatum_api_GroundDatum__ground_explainsAll_1)]
theorem hC_ground_explainsAll:ConsOk Try.prog C_ground_explainsAll := ConsOk.cons ok_slices_ContainsFuncapi_GroundDatum_api_GroundDatum__ground_explainsAll_1 <| ConsOk.nil
def w_ground_explainsAll (p0:(List (Int×Int))) (p1:(List (Int×(Int×Int)))) (K:Bool→Prop):Prop :=
  ((v_mok p0) ∧
 ((v_dat p1) ∧
 (K (!(v_exAny p0 p1)))))
set_option maxHeartbeats 4000000 in
theorem w_ground_explainsAll_eq (p0:(List (Int×Int))) (p1:(List (Int×(Int×Int)))) (K:Bool→Prop):tfn F_ground_explainsAll A_ground_explainsAll C_ground_explainsAll P_ground_explainsAll R_ground_explainsAll (p0,p1) K = w_ground_explainsAll p0 p1 K := by kernel_rfl
def s_ground_explainsAll (p0:(List (Int×Int))) (p1:(List (Int×(Int×Int)))):Bool :=
 (!(v_exAny p0 p1))
abbrev pre_ground_explainsAll (p0:(List (Int×Int))) (p1:(List (Int×(Int×Int)))):List Prop := [(v_mok p0),
  (v_dat p1)]
set_option maxHeartbeats 4000000 in
theorem d_ground_explainsAll (p0:(List (Int×Int))) (p1:(List (Int×(Int×Int)))) (K:Bool→Prop) (hp:∀ p∈pre_ground_explainsAll p0 p1,p) (h:K (s_ground_explainsAll p0 p1)):w_ground_explainsAll p0 p1 K := by
 unfold w_ground_explainsAll
 unfold s_ground_explainsAll at h
 obtain ⟨hp0,hp1,_⟩ := conj_of hp
 exact ⟨(hp0),(hp1),h⟩
abbrev t_ground_explainsAll (p0:List (Int×Int)) (p1:List (Int×Int×Int)):Bool := v_exAll p0 p1
abbrev qre_ground_explainsAll (p0:List (Int×Int)) (p1:List (Int×Int×Int)):List Prop := [v_mok p0,v_dat p1]
theorem pp_ground_explainsAll (p0:List (Int×Int)) (p1:List (Int×Int×Int)) (hq:∀ p∈qre_ground_explainsAll p0 p1,p):∀ p∈pre_ground_explainsAll p0 p1,p := by
 simpa only [pre_ground_explainsAll] using hq
theorem tt_ground_explainsAll (p0:List (Int×Int)) (p1:List (Int×Int×Int)) (_hq:∀ p∈qre_ground_explainsAll p0 p1,p):s_ground_explainsAll p0 p1 = t_ground_explainsAll p0 p1 := by
 unfold s_ground_explainsAll t_ground_explainsAll v_exAll v_exAny
 simp [List.not_any_eq_all_not]

abbrev con_ground_explainsAll:Con := ⟨P_ground_explainsAll,R_ground_explainsAll,fun x => qre_ground_explainsAll x.1 x.2,fun x => t_ground_explainsAll x.1 x.2⟩
theorem ok_ground_explainsAll:ConOk Try.prog 106 con_ground_explainsAll := ⟨k_ground_explainsAll,fun x hx => ret_tf (ps := P_ground_explainsAll) (rs := R_ground_explainsAll) (x := x) (y := t_ground_explainsAll x.1 x.2) e_ground_explainsAll hC_ground_explainsAll (tf_of (w_ground_explainsAll_eq x.1 x.2 (fun z => z = t_ground_explainsAll x.1 x.2)) (d_ground_explainsAll x.1 x.2 (fun z => z = t_ground_explainsAll x.1 x.2) (pp_ground_explainsAll x.1 x.2 hx) (tt_ground_explainsAll x.1 x.2 hx)))⟩
/- ground_class_explained -/
def C_ground_class_explained:Cons := [(1000000097,itMark,con_ground_class_models),(106,[],con_ground_explainsAll)]
theorem hC_ground_class_explained:ConsOk Try.prog C_ground_class_explained := ConsOk.consI ok_ground_class_models <| ConsOk.cons ok_ground_explainsAll <| ConsOk.nil
def w_ground_class_explained (p0:(List ((List Int)×(List Int)))) (p1:(List (Int×(Int×Int)))) (K:(List Int)→Prop):Prop :=
  ((v_cne p0) ∧
 (((v_count p0)≤300) ∧
 (RngP (fun (y0:(List Int)) (z1:(Int×(List (Int×Int)))) k2 =>
  ((v_mok z1.2) ∧
  ((v_dat p1) ∧
  ((((v_exAll z1.2 p1)=true) →
  ((((y0.length + (List.length (z1.1 :: ([]:List Int)))) * 8)≤140737488355328) ∧
   (k2 (y0 ++ (z1.1 :: ([]:List Int)))))) ∧
  (((v_exAll z1.2 p1)=false) →
  (k2 y0))))))
  (fun (s3:(List Int)) => (K s3)) (v_mdls p0) ([]:List Int))))
set_option maxHeartbeats 4000000 in
theorem w_ground_class_explained_eq (p0:(List ((List Int)×(List Int)))) (p1:(List (Int×(Int×Int)))) (K:(List Int)→Prop):tfn F_ground_class_explained A_ground_class_explained C_ground_class_explained P_ground_class_explained R_ground_class_explained (p0,p1) K = w_ground_class_explained p0 p1 K := by kernel_rfl
def st_ground_class_explained_0 (_p0:(List ((List Int)×(List Int)))) (p1:(List (Int×(Int×Int)))) (y0:(List Int)) (z0:(Int×(List (Int×Int)))):(List Int) ⊕ (List Int) :=
 (cond (v_exAll z0.2 p1) (Sum.inl (y0 ++ (z0.1 :: ([]:List Int))))
  (Sum.inl y0))
abbrev sp_ground_class_explained_0 (_p0:(List ((List Int)×(List Int)))) (p1:(List (Int×(Int×Int)))) (y0:(List Int)) (z0:(Int×(List (Int×Int)))):List Prop := [(v_mok z0.2),
  (v_dat p1),
  (((v_exAll z0.2 p1)=true)→(((y0.length + (List.length (z0.1 :: ([]:List Int)))) * 8)≤140737488355328))]
def sf_ground_class_explained_0 (_p0:(List ((List Int)×(List Int)))) (_p1:(List (Int×(Int×Int)))) (s0:(List Int)):(List Int) :=
 s0
abbrev sq_ground_class_explained_0 (_p0:(List ((List Int)×(List Int)))) (_p1:(List (Int×(Int×Int)))) (_s0:(List Int)):List Prop := []
def s_ground_class_explained (p0:(List ((List Int)×(List Int)))) (p1:(List (Int×(Int×Int)))):(List Int) :=
 (rngV (st_ground_class_explained_0 p0 p1) (sf_ground_class_explained_0 p0 p1) (v_mdls p0) ([]:List Int))
abbrev pre_ground_class_explained (p0:(List ((List Int)×(List Int)))) (p1:(List (Int×(Int×Int)))):List Prop := [(v_cne p0),
  ((v_count p0)≤300),
  (OkR (st_ground_class_explained_0 p0 p1) (sp_ground_class_explained_0 p0 p1) (sq_ground_class_explained_0 p0 p1) (v_mdls p0) ([]:List Int))]
set_option maxHeartbeats 4000000 in
theorem d_ground_class_explained (p0:(List ((List Int)×(List Int)))) (p1:(List (Int×(Int×Int)))) (K:(List Int)→Prop) (hp:∀ p∈pre_ground_class_explained p0 p1,p) (h:K (s_ground_class_explained p0 p1)):w_ground_class_explained p0 p1 K := by
 unfold w_ground_class_explained
 unfold s_ground_class_explained at h
 obtain ⟨hp0,hp1,hp2,_⟩ := conj_of hp
 exact ⟨(hp0),(hp1),(rng_gen (hp2) h (fun y0 z0 k0 hp h => by
 unfold st_ground_class_explained_0 at h; obtain ⟨hp0,hp1,hp2,_⟩ := conj_of hp
 exact ⟨(hp0),(hp1),(br' h (fun e1 h => ⟨(hp2 e1),h⟩)
  (fun e1 h => h))⟩) (fun s0 hp h => by
 unfold sf_ground_class_explained_0 at h
 exact h))⟩
theorem v_dig {n a:Int} (hn:0 < n) (_ha:0≤a):0≤a % n∧(a % n).toNat < n.toNat := by
 have m1 := Int.emod_nonneg a (show n ≠ 0 by omega)
 have m2 := Int.emod_lt_of_pos a hn
 omega
/-- A model of a valid class is valid. -/
theorem v_mod_ok:∀ (l:List (List Int×List Int)) (k:Int),0≤k→(∀ a x r,l = a ++ x :: r→v_clay (r = []) x)→(∀ y∈(v_mod l k).2,v_lok y)∧(∀ a y,(v_mod l k).2 = a ++ [y]→y.2 = 0)
 | [],k,_,_ => ⟨fun y hy => (by cases hy),fun a y e => (by cases a <;> simp [v_mod] at e)⟩
 | x :: r,k,hk,hl => by
  obtain ⟨i1,i2⟩ := v_mod_ok r k hk (fun a y s e => hl (x :: a) y s (by rw [e]; rfl))
  have hx := hl [] x r rfl
  have n1 := hx.n1
  have n2 := hx.n2
  have hq := (v_mod_nn r k hk).1
  have d2 := v_dig (n := (x.2.length:Int)) (a := (v_mod r k).1) (by omega) hq
  have d1 := v_dig (n := (x.1.length:Int)) (a := (v_mod r k).1 / (x.2.length:Int)) (by omega) (Int.ediv_nonneg hq (by omega))
  have e:(v_mod (x :: r) k).2 = (x.1.getD ((v_mod r k).1 / (x.2.length:Int) % (x.1.length:Int)).toNat 0,x.2.getD ((v_mod r k).1 % (x.2.length:Int)).toNat 0) :: (v_mod r k).2 := rfl
  rw [e]
  have c1 := hx.c.mem _ (v_getD_mem (d := 0) (show ((v_mod r k).1 / (x.2.length:Int) % (x.1.length:Int)).toNat < x.1.length by omega))
  have c2 := hx.t.mem _ (v_getD_mem (d := 0) (show ((v_mod r k).1 % (x.2.length:Int)).toNat < x.2.length by omega))
  refine ⟨fun y hy => ?_,fun a y e2 => ?_⟩
  ·rcases List.mem_cons.1 hy with rfl | hy
   ·exact ⟨c1,c2⟩
   ·exact i1 y hy
  ·cases a with
   | nil =>
    simp only [List.nil_append,List.cons.injEq] at e2
    obtain ⟨rfl,e3⟩ := e2
    have hr:r = [] := List.eq_nil_of_length_eq_zero (by rw [← v_mod_len r k,e3]; rfl)
    have z := hx.z hr
    have d3 := d2.2
    rw [z] at d3
    have:((v_mod r k).1 % (x.2.length:Int)).toNat = 0 := by rw [z]; simp
    show x.2.getD ((v_mod r k).1 % (x.2.length:Int)).toNat 0 = 0
    rw [this,z]; rfl
   | cons b a =>
    simp only [List.cons_append,List.cons.injEq] at e2
    exact i2 a y e2.2
theorem v_mdl_mok {l:List (List Int×List Int)} (h:v_clok l) {k:Int} (hk:0≤k):v_mok (v_mdl l k) := by
 obtain ⟨h1,h2⟩ := v_mod_ok l k hk h.lay
 refine ⟨fun e => h.ne (List.eq_nil_of_length_eq_zero (by rw [← v_mod_len l k]; exact (congrArg List.length e).trans rfl)),by unfold v_mdl; rw [v_mod_len]; exact h.cne.len,h1,h2⟩
theorem v_mdls_mok {l:List (List Int×List Int)} (h:v_clok l) {z:Int×List (Int×Int)} (hz:z∈v_mdls l):v_mok z.2 := by
 unfold v_mdls at hz
 obtain ⟨k,_,rfl⟩ := List.mem_map.1 hz
 exact v_mdl_mok h (k := (k:Int)) (by omega)
theorem v_mdls_len (l:List (List Int×List Int)):(v_mdls l).length = (v_count l).toNat := by unfold v_mdls; simp
/-- The numbers of all models that explain data. -/
def v_expn (d:List (Int×Int×Int)):List (Int×List (Int×Int))→List Int
 | [] => []
 | z :: r => cond (v_exAll z.2 d) (z.1 :: v_expn d r) (v_expn d r)
theorem l_ground_class_explained_0 (p0:List (List Int×List Int)) (p1:List (Int×Int×Int)) (hd:v_dat p1):∀ (zs:List (Int×List (Int×Int))) (out:List Int),(∀ z∈zs,v_mok z.2)→out.length + zs.length≤300→OkR (st_ground_class_explained_0 p0 p1) (sp_ground_class_explained_0 p0 p1) (sq_ground_class_explained_0 p0 p1) zs out∧rngV (st_ground_class_explained_0 p0 p1) (sf_ground_class_explained_0 p0 p1) zs out = out ++ v_expn p1 zs
 | [],out,_,_ => ⟨(by intro p hp; cases hp),(List.append_nil out).symm⟩
 | z :: r,out,h,hl => by
  rw [List.length_cons] at hl
  have hz := h z (by simp)
  have hr:∀ y∈r,v_mok y.2 := fun y hy => h y (List.mem_cons_of_mem _ hy)
  have sp:∀ p∈sp_ground_class_explained_0 p0 p1 out z,p := by
   simp only [sp_ground_class_explained_0,List.forall_mem_cons]
   exact ⟨hz,hd,fun _ => by simp only [List.length_cons,List.length_nil]; omega,(by intro p hp; cases hp)⟩
  have e1:v_expn p1 (z :: r)=cond (v_exAll z.2 p1) (z.1 :: v_expn p1 r) (v_expn p1 r) := rfl
  have e2:st_ground_class_explained_0 p0 p1 out z = cond (v_exAll z.2 p1) (Sum.inl (out ++ [z.1])) (Sum.inl out) := rfl
  rw [e1]
  unfold OkR rngV
  rw [e2]
  cases v_exAll z.2 p1
  ·obtain ⟨h1,h2⟩ := l_ground_class_explained_0 p0 p1 hd r out hr (by omega)
   exact ⟨⟨sp,h1⟩,h2⟩
  ·obtain ⟨h1,h2⟩ := l_ground_class_explained_0 p0 p1 hd r (out ++ [z.1]) hr (by rw [List.length_append,List.length_singleton]; omega)
   refine ⟨⟨sp,h1⟩,h2.trans ?_⟩
   rw [List.append_assoc]; rfl
abbrev t_ground_class_explained (p0:List (List Int×List Int)) (p1:List (Int×Int×Int)):List Int := v_expn p1 (v_mdls p0)
abbrev qre_ground_class_explained (p0:List (List Int×List Int)) (p1:List (Int×Int×Int)):List Prop := [v_clok p0,v_dat p1]
theorem pp_ground_class_explained (p0:List (List Int×List Int)) (p1:List (Int×Int×Int)) (hq:∀ p∈qre_ground_class_explained p0 p1,p):∀ p∈pre_ground_class_explained p0 p1,p := by
 obtain ⟨h1,h2,_⟩ := conj_of hq
 simp only [pre_ground_class_explained,List.forall_mem_cons]
 exact ⟨h1.cne,h1.cnt,(l_ground_class_explained_0 p0 p1 h2 (v_mdls p0) [] (fun z hz => v_mdls_mok h1 hz) (by rw [v_mdls_len]; have := h1.cnt; simp only [List.length_nil]; omega)).1,(by intro p hp; cases hp)⟩
theorem tt_ground_class_explained (p0:List (List Int×List Int)) (p1:List (Int×Int×Int)) (hq:∀ p∈qre_ground_class_explained p0 p1,p):s_ground_class_explained p0 p1 = t_ground_class_explained p0 p1 := by
 obtain ⟨h1,h2,_⟩ := conj_of hq
 exact (l_ground_class_explained_0 p0 p1 h2 (v_mdls p0) [] (fun z hz => v_mdls_mok h1 hz) (by rw [v_mdls_len]; have := h1.cnt; simp only [List.length_nil]; omega)).2

abbrev con_ground_class_explained:Con := ⟨P_ground_class_explained,R_ground_class_explained,fun x => qre_ground_class_explained x.1 x.2,fun x => t_ground_class_explained x.1 x.2⟩
theorem ok_ground_class_explained:ConOk Try.prog 108 con_ground_class_explained := ⟨k_ground_class_explained,fun x hx => ret_tf (ps := P_ground_class_explained) (rs := R_ground_class_explained) (x := x) (y := t_ground_class_explained x.1 x.2) e_ground_class_explained hC_ground_class_explained (tf_of (w_ground_class_explained_eq x.1 x.2 (fun z => z = t_ground_class_explained x.1 x.2)) (d_ground_class_explained x.1 x.2 (fun z => z = t_ground_class_explained x.1 x.2) (pp_ground_class_explained x.1 x.2 hx) (tt_ground_class_explained x.1 x.2 hx)))⟩
/- ground_dataErr -/
def C_ground_dataErr:Cons := [(52,[],con_ground_CheckData)]
theorem hC_ground_dataErr:ConsOk Try.prog C_ground_dataErr := ConsOk.cons ok_ground_CheckData <| ConsOk.nil
def w_ground_dataErr (p0:(List (Int×(Int×Int)))) (K:Int→Prop):Prop :=
  (K (v_cd p0).2)
set_option maxHeartbeats 4000000 in
theorem w_ground_dataErr_eq (p0:(List (Int×(Int×Int)))) (K:Int→Prop):tfn F_ground_dataErr A_ground_dataErr C_ground_dataErr P_ground_dataErr R_ground_dataErr p0 K = w_ground_dataErr p0 K := by kernel_rfl
def s_ground_dataErr (p0:(List (Int×(Int×Int)))):Int :=
 (v_cd p0).2
abbrev pre_ground_dataErr (_p0:(List (Int×(Int×Int)))):List Prop := []
set_option maxHeartbeats 4000000 in
theorem d_ground_dataErr (p0:(List (Int×(Int×Int)))) (K:Int→Prop) (_hp:∀ p∈pre_ground_dataErr p0,p) (h:K (s_ground_dataErr p0)):w_ground_dataErr p0 K := by
 unfold w_ground_dataErr
 unfold s_ground_dataErr at h
 exact h
abbrev con_ground_dataErr:Con := ⟨P_ground_dataErr,R_ground_dataErr,fun x => pre_ground_dataErr x,fun x => s_ground_dataErr x⟩
theorem ok_ground_dataErr:ConOk Try.prog 101 con_ground_dataErr := ⟨k_ground_dataErr,fun x hx => ret_tf (ps := P_ground_dataErr) (rs := R_ground_dataErr) (x := x) (y := s_ground_dataErr x) e_ground_dataErr hC_ground_dataErr (tf_of (w_ground_dataErr_eq x (fun z => z = s_ground_dataErr x)) (d_ground_dataErr x (fun z => z = s_ground_dataErr x) hx rfl))⟩
/- ground_openData -/
def C_ground_openData:Cons := [(93,[],con_ground_open),(101,[],con_ground_dataErr),(73,[],con_ground_first)]
theorem hC_ground_openData:ConsOk Try.prog C_ground_openData := ConsOk.cons ok_ground_open <| ConsOk.cons ok_ground_dataErr <| ConsOk.cons ok_ground_first <| ConsOk.nil
def w_ground_openData (p0:(List ((List Int)×(List Int)))) (p1:(List (Int×(Int×Int)))) (K:((List ((List Int)×(List Int)))×Int)→Prop):Prop :=
  ((v_few p0) ∧
 ((lenOk ((v_cc p0).2 :: ((v_cd p1).2 :: ([]:List Int)))) ∧
 (K (p0,(v_first ((v_cc p0).2 :: ((v_cd p1).2 :: ([]:List Int))))))))
set_option maxHeartbeats 4000000 in
theorem w_ground_openData_eq (p0:(List ((List Int)×(List Int)))) (p1:(List (Int×(Int×Int)))) (K:((List ((List Int)×(List Int)))×Int)→Prop):tfn F_ground_openData A_ground_openData C_ground_openData P_ground_openData R_ground_openData (p0,p1) K = w_ground_openData p0 p1 K := by kernel_rfl
def s_ground_openData (p0:(List ((List Int)×(List Int)))) (p1:(List (Int×(Int×Int)))):((List ((List Int)×(List Int)))×Int) :=
 (p0,(v_first ((v_cc p0).2 :: ((v_cd p1).2 :: ([]:List Int)))))
abbrev pre_ground_openData (p0:(List ((List Int)×(List Int)))) (_p1:(List (Int×(Int×Int)))):List Prop := [(v_few p0)]
set_option maxHeartbeats 4000000 in
theorem d_ground_openData (p0:(List ((List Int)×(List Int)))) (p1:(List (Int×(Int×Int)))) (K:((List ((List Int)×(List Int)))×Int)→Prop) (hp:∀ p∈pre_ground_openData p0 p1,p) (h:K (s_ground_openData p0 p1)):w_ground_openData p0 p1 K := by
 unfold w_ground_openData
 unfold s_ground_openData at h
 obtain ⟨hp0,_⟩ := conj_of hp
 exact ⟨(hp0),(lenOk_of 2 rfl (by decide)),h⟩
abbrev con_ground_openData:Con := ⟨P_ground_openData,R_ground_openData,fun x => pre_ground_openData x.1 x.2,fun x => s_ground_openData x.1 x.2⟩
theorem ok_ground_openData:ConOk Try.prog 107 con_ground_openData := ⟨k_ground_openData,fun x hx => ret_tf (ps := P_ground_openData) (rs := R_ground_openData) (x := x) (y := s_ground_openData x.1 x.2) e_ground_openData hC_ground_openData (tf_of (w_ground_openData_eq x.1 x.2 (fun z => z = s_ground_openData x.1 x.2)) (d_ground_openData x.1 x.2 (fun z => z = s_ground_openData x.1 x.2) hx rfl))⟩
/- ground_ExplainedIn -/
def C_ground_ExplainedIn:Cons := [(107,[],con_ground_openData),(108,[],con_ground_class_explained)]
theorem hC_ground_ExplainedIn:ConsOk Try.prog C_ground_ExplainedIn := ConsOk.cons ok_ground_openData <| ConsOk.cons ok_ground_class_explained <| ConsOk.nil
def w_ground_ExplainedIn (p0:(List ((List Int)×(List Int)))) (p1:(List (Int×(Int×Int)))) (K:((List Int)×Int)→Prop):Prop :=
  ((v_few p0) ∧
 (((((v_first ((v_cc p0).2 :: ((v_cd p1).2 :: ([]:List Int)))) != 0)=true) →
 (K (([]:List Int),(v_first ((v_cc p0).2 :: ((v_cd p1).2 :: ([]:List Int))))))) ∧
 ((((v_first ((v_cc p0).2 :: ((v_cd p1).2 :: ([]:List Int)))) != 0)=false) →
 ((v_clok p0) ∧
  ((v_dat p1) ∧
  (K ((v_expn p1 (v_mdls p0)),(0:Int))))))))
set_option maxHeartbeats 4000000 in
theorem w_ground_ExplainedIn_eq (p0:(List ((List Int)×(List Int)))) (p1:(List (Int×(Int×Int)))) (K:((List Int)×Int)→Prop):tfn F_ground_ExplainedIn A_ground_ExplainedIn C_ground_ExplainedIn P_ground_ExplainedIn R_ground_ExplainedIn (p0,p1) K = w_ground_ExplainedIn p0 p1 K := by kernel_rfl
def s_ground_ExplainedIn (p0:(List ((List Int)×(List Int)))) (p1:(List (Int×(Int×Int)))):((List Int)×Int) :=
 (cond ((v_first ((v_cc p0).2 :: ((v_cd p1).2 :: ([]:List Int)))) != 0) (([]:List Int),(v_first ((v_cc p0).2 :: ((v_cd p1).2 :: ([]:List Int)))))
  ((v_expn p1 (v_mdls p0)),(0:Int)))
abbrev pre_ground_ExplainedIn (p0:(List ((List Int)×(List Int)))) (p1:(List (Int×(Int×Int)))):List Prop := [(v_few p0),
  ((((v_first ((v_cc p0).2 :: ((v_cd p1).2 :: ([]:List Int)))) != 0)=false)→(v_clok p0)),
  ((((v_first ((v_cc p0).2 :: ((v_cd p1).2 :: ([]:List Int)))) != 0)=false)→(v_dat p1))]
set_option maxHeartbeats 4000000 in
theorem d_ground_ExplainedIn (p0:(List ((List Int)×(List Int)))) (p1:(List (Int×(Int×Int)))) (K:((List Int)×Int)→Prop) (hp:∀ p∈pre_ground_ExplainedIn p0 p1,p) (h:K (s_ground_ExplainedIn p0 p1)):w_ground_ExplainedIn p0 p1 K := by
 unfold w_ground_ExplainedIn
 unfold s_ground_ExplainedIn at h
 obtain ⟨hp0,hp1,hp2,_⟩ := conj_of hp
 exact ⟨(hp0),(br' h (fun e0 h => h)
  (fun e0 h => ⟨(hp1 e0),(hp2 e0),h⟩))⟩
def v_exin (c:List (List Int×List Int)) (d:List (Int×Int×Int)):List Int×Int := cond ((v_cc c).2 != 0) ([],(v_cc c).2) (cond ((v_cd d).2 != 0) ([],(v_cd d).2) (v_expn d (v_mdls c),0))
abbrev t_ground_ExplainedIn (p0:List (List Int×List Int)) (p1:List (Int×Int×Int)):List Int×Int := v_exin p0 p1
abbrev qre_ground_ExplainedIn (p0:List (List Int×List Int)) (_p1:List (Int×Int×Int)):List Prop := [v_few p0]
theorem pp_ground_ExplainedIn (p0:List (List Int×List Int)) (p1:List (Int×Int×Int)) (hq:∀ p∈qre_ground_ExplainedIn p0 p1,p):∀ p∈pre_ground_ExplainedIn p0 p1,p := by
 obtain ⟨h1,_⟩ := conj_of hq
 simp only [pre_ground_ExplainedIn,List.forall_mem_cons]
 exact ⟨h1,fun h => tx_cc_ok h1 (tx_first1 h).1,fun h => (tx_cd_ok (tx_first1 h).2).1,(by intro p hp; cases hp)⟩
theorem tt_ground_ExplainedIn (p0:List (List Int×List Int)) (p1:List (Int×Int×Int)) (_hq:∀ p∈qre_ground_ExplainedIn p0 p1,p):s_ground_ExplainedIn p0 p1 = t_ground_ExplainedIn p0 p1 := by
 unfold s_ground_ExplainedIn t_ground_ExplainedIn v_exin
 rw [tx_first2]
 rcases int0 (v_cc p0).2 with ⟨z,e,_⟩ | ⟨z,e,_⟩ <;> rw [e]
 ·rcases int0 (v_cd p1).2 with ⟨y,f,_⟩ | ⟨y,f,_⟩ <;> rw [cond_false,f]
  ·rfl
  ·rfl
 ·rw [cond_true,e]; rfl

abbrev con_ground_ExplainedIn:Con := ⟨P_ground_ExplainedIn,R_ground_ExplainedIn,fun x => qre_ground_ExplainedIn x.1 x.2,fun x => t_ground_ExplainedIn x.1 x.2⟩
theorem ok_ground_ExplainedIn:ConOk Try.prog 48 con_ground_ExplainedIn := ⟨k_ground_ExplainedIn,fun x hx => ret_tf (ps := P_ground_ExplainedIn) (rs := R_ground_ExplainedIn) (x := x) (y := t_ground_ExplainedIn x.1 x.2) e_ground_ExplainedIn hC_ground_ExplainedIn (tf_of (w_ground_ExplainedIn_eq x.1 x.2 (fun z => z = t_ground_ExplainedIn x.1 x.2)) (d_ground_ExplainedIn x.1 x.2 (fun z => z = t_ground_ExplainedIn x.1 x.2) (pp_ground_ExplainedIn x.1 x.2 hx) (tt_ground_ExplainedIn x.1 x.2 hx)))⟩
/- ground_widened -/
def C_ground_widened:Cons := []
theorem hC_ground_widened:ConsOk Try.prog C_ground_widened := ConsOk.nil
def w_ground_widened (p0:(Int×Int)) (p1:Int) (K:(Int×Int)→Prop):Prop :=
  (K ((min p0.1 p1),(max p0.2 p1)))
set_option maxHeartbeats 4000000 in
theorem w_ground_widened_eq (p0:(Int×Int)) (p1:Int) (K:(Int×Int)→Prop):tfn F_ground_widened A_ground_widened C_ground_widened P_ground_widened R_ground_widened (p0,p1) K = w_ground_widened p0 p1 K := by kernel_rfl
def s_ground_widened (p0:(Int×Int)) (p1:Int):(Int×Int) :=
 ((min p0.1 p1),(max p0.2 p1))
abbrev pre_ground_widened (_p0:(Int×Int)) (_p1:Int):List Prop := []
set_option maxHeartbeats 4000000 in
theorem d_ground_widened (p0:(Int×Int)) (p1:Int) (K:(Int×Int)→Prop) (_hp:∀ p∈pre_ground_widened p0 p1,p) (h:K (s_ground_widened p0 p1)):w_ground_widened p0 p1 K := by
 unfold w_ground_widened
 unfold s_ground_widened at h
 exact h
abbrev con_ground_widened:Con := ⟨P_ground_widened,R_ground_widened,fun x => pre_ground_widened x.1 x.2,fun x => s_ground_widened x.1 x.2⟩
theorem ok_ground_widened:ConOk Try.prog 109 con_ground_widened := ⟨k_ground_widened,fun x hx => ret_tf (ps := P_ground_widened) (rs := R_ground_widened) (x := x) (y := s_ground_widened x.1 x.2) e_ground_widened hC_ground_widened (tf_of (w_ground_widened_eq x.1 x.2 (fun z => z = s_ground_widened x.1 x.2)) (d_ground_widened x.1 x.2 (fun z => z = s_ground_widened x.1 x.2) hx rfl))⟩
/- ground_RangesOf -/
def C_ground_RangesOf:Cons := [(107,[],con_ground_openData),(108,[],con_ground_class_explained),(96,[],con_ground_class_model),(109,[],con_ground_widened),(74,[],con_ground_unless)]
theorem hC_ground_RangesOf:ConsOk Try.prog C_ground_RangesOf := ConsOk.cons ok_ground_openData <| ConsOk.cons ok_ground_class_explained <| ConsOk.cons ok_ground_class_model <| ConsOk.cons ok_ground_widened <| ConsOk.cons ok_ground_unless <| ConsOk.nil
abbrev q1_ground_RangesOf (p0:(List ((List Int)×(List Int)))) (p1:(List (Int×(Int×Int)))) (y1:((List ((Int×Int)×(Int×Int)))×Int)) (y4:(Int×(List ((Int×Int)×(Int×Int))))) := (List.getD (v_mdl p0 (List.getD (v_expn p1 (v_mdls p0)) y1.2.toNat zz0)) y4.1.toNat (zz0,zz0))
abbrev q0_ground_RangesOf (p0:(List ((List Int)×(List Int)))) (p1:(List (Int×(Int×Int)))) (y1:((List ((Int×Int)×(Int×Int)))×Int)) (y4:(Int×(List ((Int×Int)×(Int×Int))))) := ((((q1_ground_RangesOf p0 p1 y1 y4).1,(q1_ground_RangesOf p0 p1 y1 y4).1),((q1_ground_RangesOf p0 p1 y1 y4).2,(q1_ground_RangesOf p0 p1 y1 y4).2)) :: ([]:List ((Int×Int)×(Int×Int))))
abbrev q2_ground_RangesOf (p0:(List ((List Int)×(List Int)))) (p1:(List (Int×(Int×Int)))) (y1:((List ((Int×Int)×(Int×Int)))×Int)) (y4:(Int×(List ((Int×Int)×(Int×Int))))) := (List.getD (y4.2 ++ (q0_ground_RangesOf p0 p1 y1 y4)) y4.1.toNat ((zz0,zz0),(zz0,zz0)))
def w_ground_RangesOf (p0:(List ((List Int)×(List Int)))) (p1:(List (Int×(Int×Int)))) (K:((List ((Int×Int)×(Int×Int)))×Int)→Prop):Prop :=
  ((v_few p0) ∧
 (((((v_first ((v_cc p0).2 :: ((v_cd p1).2 :: ([]:List Int)))) != zz0)=true) →
 (K (([]:List ((Int×Int)×(Int×Int))),(v_first ((v_cc p0).2 :: ((v_cd p1).2 :: ([]:List Int))))))) ∧
 ((((v_first ((v_cc p0).2 :: ((v_cd p1).2 :: ([]:List Int)))) != zz0)=false) →
 ((v_clok p0) ∧
  ((v_dat p1) ∧
  (∃ n0,(loopP (fun (y1:((List ((Int×Int)×(Int×Int)))×Int)) k2 =>
   ((((decide (y1.2 < (((v_expn p1 (v_mdls p0)).length:Nat):Int)))=true) →
   ((zz0≤y1.2) ∧
    ((y1.2 < (((v_expn p1 (v_mdls p0)).length:Nat):Int)) ∧
    ((v_cne p0) ∧
    (((zz0≤(List.getD (v_expn p1 (v_mdls p0)) y1.2.toNat zz0)) ∧
    ((List.getD (v_expn p1 (v_mdls p0)) y1.2.toNat zz0)≤9223372036854775807)) ∧
    (∃ n3,(loopP (fun (y4:(Int×(List ((Int×Int)×(Int×Int))))) k5 =>
     ((((decide (y4.1 < (((List.length (v_mdl p0 (List.getD (v_expn p1 (v_mdls p0)) y1.2.toNat zz0))):Nat):Int)))=true) →
     ((zz0≤y4.1) ∧
      ((y4.1 < (((List.length (v_mdl p0 (List.getD (v_expn p1 (v_mdls p0)) y1.2.toNat zz0))):Nat):Int)) ∧
      ((((y4.1 == (y4.2.length:Int))=true) →
      ((((y4.2.length + (List.length (q0_ground_RangesOf p0 p1 y1 y4))) * 32)≤140737488355328) ∧
       ((zz0≤y4.1) ∧
       ((y4.1 < (((y4.2 ++ (q0_ground_RangesOf p0 p1 y1 y4)).length:Nat):Int)) ∧
       ((zz0≤y4.1) ∧
       ((y4.1 < (((y4.2 ++ (q0_ground_RangesOf p0 p1 y1 y4)).length:Nat):Int)) ∧
       ((zz0≤y4.1) ∧
       ((y4.1 < (((y4.2 ++ (q0_ground_RangesOf p0 p1 y1 y4)).length:Nat):Int)) ∧
       (k5 ((wi (y4.1 + zz1)),(List.set (y4.2 ++ (q0_ground_RangesOf p0 p1 y1 y4)) y4.1.toNat (((min (q2_ground_RangesOf p0 p1 y1 y4).1.1 (q1_ground_RangesOf p0 p1 y1 y4).1),(max (q2_ground_RangesOf p0 p1 y1 y4).1.2 (q1_ground_RangesOf p0 p1 y1 y4).1)),((min (q2_ground_RangesOf p0 p1 y1 y4).2.1 (q1_ground_RangesOf p0 p1 y1 y4).2),(max (q2_ground_RangesOf p0 p1 y1 y4).2.2 (q1_ground_RangesOf p0 p1 y1 y4).2)))))))))))))) ∧
      (((y4.1 == (y4.2.length:Int))=false) →
      ((zz0≤y4.1) ∧
       ((y4.1 < (y4.2.length:Int)) ∧
       ((zz0≤y4.1) ∧
       ((y4.1 < (y4.2.length:Int)) ∧
       ((zz0≤y4.1) ∧
       ((y4.1 < (y4.2.length:Int)) ∧
       (k5 ((wi (y4.1 + zz1)),(List.set y4.2 y4.1.toNat (((min (y4.2.getD y4.1.toNat ((zz0,zz0),(zz0,zz0))).1.1 (q1_ground_RangesOf p0 p1 y1 y4).1),(max (y4.2.getD y4.1.toNat ((zz0,zz0),(zz0,zz0))).1.2 (q1_ground_RangesOf p0 p1 y1 y4).1)),((min (y4.2.getD y4.1.toNat ((zz0,zz0),(zz0,zz0))).2.1 (q1_ground_RangesOf p0 p1 y1 y4).2),(max (y4.2.getD y4.1.toNat ((zz0,zz0),(zz0,zz0))).2.2 (q1_ground_RangesOf p0 p1 y1 y4).2))))))))))))))))) ∧
     (((decide (y4.1 < (((List.length (v_mdl p0 (List.getD (v_expn p1 (v_mdls p0)) y1.2.toNat zz0))):Nat):Int)))=false) →
     (k2 (y4.2,(wi (y1.2 + zz1))))))) n3 (zz0,y1.1)))))))) ∧
   (((decide (y1.2 < (((v_expn p1 (v_mdls p0)).length:Nat):Int)))=false) →
   (K (y1.1,(s_ground_unless (decide ((y1.1.length:Int) > zz0)) (12:Int))))))) n0 (([]:List ((Int×Int)×(Int×Int))),zz0))))))))
set_option maxHeartbeats 4000000 in
theorem w_ground_RangesOf_eq (p0:(List ((List Int)×(List Int)))) (p1:(List (Int×(Int×Int)))) (K:((List ((Int×Int)×(Int×Int)))×Int)→Prop):tfn F_ground_RangesOf A_ground_RangesOf C_ground_RangesOf P_ground_RangesOf R_ground_RangesOf (p0,p1) K = w_ground_RangesOf p0 p1 K := by kernel_rfl
def st_ground_RangesOf_0 (p0:(List ((List Int)×(List Int)))) (p1:(List (Int×(Int×Int)))) (y1:((List ((Int×Int)×(Int×Int)))×Int)) (y3:(Int×(List ((Int×Int)×(Int×Int))))):(Int×(List ((Int×Int)×(Int×Int)))) ⊕ (((List ((Int×Int)×(Int×Int)))×Int) ⊕ ((List ((Int×Int)×(Int×Int)))×Int)) :=
 (cond (decide (y3.1 < (((List.length (v_mdl p0 (List.getD (v_expn p1 (v_mdls p0)) y1.2.toNat (0:Int)))):Nat):Int))) (cond (y3.1 == (y3.2.length:Int)) (Sum.inl ((IntKind.i64.wrap (y3.1 + 1)),(List.set (y3.2 ++ ((((List.getD (v_mdl p0 (List.getD (v_expn p1 (v_mdls p0)) y1.2.toNat (0:Int))) y3.1.toNat ((0:Int),(0:Int))).1,(List.getD (v_mdl p0 (List.getD (v_expn p1 (v_mdls p0)) y1.2.toNat (0:Int))) y3.1.toNat ((0:Int),(0:Int))).1),((List.getD (v_mdl p0 (List.getD (v_expn p1 (v_mdls p0)) y1.2.toNat (0:Int))) y3.1.toNat ((0:Int),(0:Int))).2,(List.getD (v_mdl p0 (List.getD (v_expn p1 (v_mdls p0)) y1.2.toNat (0:Int))) y3.1.toNat ((0:Int),(0:Int))).2)) :: ([]:List ((Int×Int)×(Int×Int))))) y3.1.toNat (((min (List.getD (y3.2 ++ ((((List.getD (v_mdl p0 (List.getD (v_expn p1 (v_mdls p0)) y1.2.toNat (0:Int))) y3.1.toNat ((0:Int),(0:Int))).1,(List.getD (v_mdl p0 (List.getD (v_expn p1 (v_mdls p0)) y1.2.toNat (0:Int))) y3.1.toNat ((0:Int),(0:Int))).1),((List.getD (v_mdl p0 (List.getD (v_expn p1 (v_mdls p0)) y1.2.toNat (0:Int))) y3.1.toNat ((0:Int),(0:Int))).2,(List.getD (v_mdl p0 (List.getD (v_expn p1 (v_mdls p0)) y1.2.toNat (0:Int))) y3.1.toNat ((0:Int),(0:Int))).2)) :: ([]:List ((Int×Int)×(Int×Int))))) y3.1.toNat (((0:Int),(0:Int)),((0:Int),(0:Int)))).1.1 (List.getD (v_mdl p0 (List.getD (v_expn p1 (v_mdls p0)) y1.2.toNat (0:Int))) y3.1.toNat ((0:Int),(0:Int))).1),(max (List.getD (y3.2 ++ ((((List.getD (v_mdl p0 (List.getD (v_expn p1 (v_mdls p0)) y1.2.toNat (0:Int))) y3.1.toNat ((0:Int),(0:Int))).1,(List.getD (v_mdl p0 (List.getD (v_expn p1 (v_mdls p0)) y1.2.toNat (0:Int))) y3.1.toNat ((0:Int),(0:Int))).1),((List.getD (v_mdl p0 (List.getD (v_expn p1 (v_mdls p0)) y1.2.toNat (0:Int))) y3.1.toNat ((0:Int),(0:Int))).2,(List.getD (v_mdl p0 (List.getD (v_expn p1 (v_mdls p0)) y1.2.toNat (0:Int))) y3.1.toNat ((0:Int),(0:Int))).2)) :: ([]:List ((Int×Int)×(Int×Int))))) y3.1.toNat (((0:Int),(0:Int)),((0:Int),(0:Int)))).1.2 (List.getD (v_mdl p0 (List.getD (v_expn p1 (v_mdls p0)) y1.2.toNat (0:Int))) y3.1.toNat ((0:Int),(0:Int))).1)),((min (List.getD (y3.2 ++ ((((List.getD (v_mdl p0 (List.getD (v_expn p1 (v_mdls p0)) y1.2.toNat (0:Int))) y3.1.toNat ((0:Int),(0:Int))).1,(List.getD (v_mdl p0 (List.getD (v_expn p1 (v_mdls p0)) y1.2.toNat (0:Int))) y3.1.toNat ((0:Int),(0:Int))).1),((List.getD (v_mdl p0 (List.getD (v_expn p1 (v_mdls p0)) y1.2.toNat (0:Int))) y3.1.toNat ((0:Int),(0:Int))).2,(List.getD (v_mdl p0 (List.getD (v_expn p1 (v_mdls p0)) y1.2.toNat (0:Int))) y3.1.toNat ((0:Int),(0:Int))).2)) :: ([]:List ((Int×Int)×(Int×Int))))) y3.1.toNat (((0:Int),(0:Int)),((0:Int),(0:Int)))).2.1 (List.getD (v_mdl p0 (List.getD (v_expn p1 (v_mdls p0)) y1.2.toNat (0:Int))) y3.1.toNat ((0:Int),(0:Int))).2),(max (List.getD (y3.2 ++ ((((List.getD (v_mdl p0 (List.getD (v_expn p1 (v_mdls p0)) y1.2.toNat (0:Int))) y3.1.toNat ((0:Int),(0:Int))).1,(List.getD (v_mdl p0 (List.getD (v_expn p1 (v_mdls p0)) y1.2.toNat (0:Int))) y3.1.toNat ((0:Int),(0:Int))).1),((List.getD (v_mdl p0 (List.getD (v_expn p1 (v_mdls p0)) y1.2.toNat (0:Int))) y3.1.toNat ((0:Int),(0:Int))).2,(List.getD (v_mdl p0 (List.getD (v_expn p1 (v_mdls p0)) y1.2.toNat (0:Int))) y3.1.toNat ((0:Int),(0:Int))).2)) :: ([]:List ((Int×Int)×(Int×Int))))) y3.1.toNat (((0:Int),(0:Int)),((0:Int),(0:Int)))).2.2 (List.getD (v_mdl p0 (List.getD (v_expn p1 (v_mdls p0)) y1.2.toNat (0:Int))) y3.1.toNat ((0:Int),(0:Int))).2))))))
  (Sum.inl ((IntKind.i64.wrap (y3.1 + 1)),(List.set y3.2 y3.1.toNat (((min (y3.2.getD y3.1.toNat (((0:Int),(0:Int)),((0:Int),(0:Int)))).1.1 (List.getD (v_mdl p0 (List.getD (v_expn p1 (v_mdls p0)) y1.2.toNat (0:Int))) y3.1.toNat ((0:Int),(0:Int))).1),(max (y3.2.getD y3.1.toNat (((0:Int),(0:Int)),((0:Int),(0:Int)))).1.2 (List.getD (v_mdl p0 (List.getD (v_expn p1 (v_mdls p0)) y1.2.toNat (0:Int))) y3.1.toNat ((0:Int),(0:Int))).1)),((min (y3.2.getD y3.1.toNat (((0:Int),(0:Int)),((0:Int),(0:Int)))).2.1 (List.getD (v_mdl p0 (List.getD (v_expn p1 (v_mdls p0)) y1.2.toNat (0:Int))) y3.1.toNat ((0:Int),(0:Int))).2),(max (y3.2.getD y3.1.toNat (((0:Int),(0:Int)),((0:Int),(0:Int)))).2.2 (List.getD (v_mdl p0 (List.getD (v_expn p1 (v_mdls p0)) y1.2.toNat (0:Int))) y3.1.toNat ((0:Int),(0:Int))).2)))))))
  (Sum.inr (Sum.inl (y3.2,(IntKind.i64.wrap (y1.2 + 1))))))
abbrev sp_ground_RangesOf_0 (p0:(List ((List Int)×(List Int)))) (p1:(List (Int×(Int×Int)))) (y1:((List ((Int×Int)×(Int×Int)))×Int)) (y3:(Int×(List ((Int×Int)×(Int×Int))))):List Prop := [(((decide (y3.1 < (((List.length (v_mdl p0 (List.getD (v_expn p1 (v_mdls p0)) y1.2.toNat (0:Int)))):Nat):Int)))=true)→((0:Int)≤y3.1)),
  (((decide (y3.1 < (((List.length (v_mdl p0 (List.getD (v_expn p1 (v_mdls p0)) y1.2.toNat (0:Int)))):Nat):Int)))=true)→(y3.1 < (((List.length (v_mdl p0 (List.getD (v_expn p1 (v_mdls p0)) y1.2.toNat (0:Int)))):Nat):Int))),
  (((decide (y3.1 < (((List.length (v_mdl p0 (List.getD (v_expn p1 (v_mdls p0)) y1.2.toNat (0:Int)))):Nat):Int)))=true)→(((y3.1 == (y3.2.length:Int))=true)→(((y3.2.length + (List.length ((((List.getD (v_mdl p0 (List.getD (v_expn p1 (v_mdls p0)) y1.2.toNat (0:Int))) y3.1.toNat ((0:Int),(0:Int))).1,(List.getD (v_mdl p0 (List.getD (v_expn p1 (v_mdls p0)) y1.2.toNat (0:Int))) y3.1.toNat ((0:Int),(0:Int))).1),((List.getD (v_mdl p0 (List.getD (v_expn p1 (v_mdls p0)) y1.2.toNat (0:Int))) y3.1.toNat ((0:Int),(0:Int))).2,(List.getD (v_mdl p0 (List.getD (v_expn p1 (v_mdls p0)) y1.2.toNat (0:Int))) y3.1.toNat ((0:Int),(0:Int))).2)) :: ([]:List ((Int×Int)×(Int×Int)))))) * 32)≤140737488355328))),
  (((decide (y3.1 < (((List.length (v_mdl p0 (List.getD (v_expn p1 (v_mdls p0)) y1.2.toNat (0:Int)))):Nat):Int)))=true)→(((y3.1 == (y3.2.length:Int))=true)→((0:Int)≤y3.1))),
  (((decide (y3.1 < (((List.length (v_mdl p0 (List.getD (v_expn p1 (v_mdls p0)) y1.2.toNat (0:Int)))):Nat):Int)))=true)→(((y3.1 == (y3.2.length:Int))=true)→(y3.1 < (((List.length (y3.2 ++ ((((List.getD (v_mdl p0 (List.getD (v_expn p1 (v_mdls p0)) y1.2.toNat (0:Int))) y3.1.toNat ((0:Int),(0:Int))).1,(List.getD (v_mdl p0 (List.getD (v_expn p1 (v_mdls p0)) y1.2.toNat (0:Int))) y3.1.toNat ((0:Int),(0:Int))).1),((List.getD (v_mdl p0 (List.getD (v_expn p1 (v_mdls p0)) y1.2.toNat (0:Int))) y3.1.toNat ((0:Int),(0:Int))).2,(List.getD (v_mdl p0 (List.getD (v_expn p1 (v_mdls p0)) y1.2.toNat (0:Int))) y3.1.toNat ((0:Int),(0:Int))).2)) :: ([]:List ((Int×Int)×(Int×Int)))))):Nat):Int)))),
  (((decide (y3.1 < (((List.length (v_mdl p0 (List.getD (v_expn p1 (v_mdls p0)) y1.2.toNat (0:Int)))):Nat):Int)))=true)→(((y3.1 == (y3.2.length:Int))=false)→((0:Int)≤y3.1))),
  (((decide (y3.1 < (((List.length (v_mdl p0 (List.getD (v_expn p1 (v_mdls p0)) y1.2.toNat (0:Int)))):Nat):Int)))=true)→(((y3.1 == (y3.2.length:Int))=false)→(y3.1 < (y3.2.length:Int))))]
def st_ground_RangesOf_1 (p0:(List ((List Int)×(List Int)))) (p1:(List (Int×(Int×Int)))) (y1:((List ((Int×Int)×(Int×Int)))×Int)):((List ((Int×Int)×(Int×Int)))×Int) ⊕ ((List ((Int×Int)×(Int×Int)))×Int) :=
 (cond (decide (y1.2 < (((v_expn p1 (v_mdls p0)).length:Nat):Int))) (lpv (Sum.inr ([],(0:Int))) (st_ground_RangesOf_0 p0 p1 y1) ((0:Int),y1.1))
  (Sum.inr (y1.1,(s_ground_unless (decide ((y1.1.length:Int) > 0)) (12:Int)))))
abbrev sp_ground_RangesOf_1 (p0:(List ((List Int)×(List Int)))) (p1:(List (Int×(Int×Int)))) (y1:((List ((Int×Int)×(Int×Int)))×Int)):List Prop := [(((decide (y1.2 < (((v_expn p1 (v_mdls p0)).length:Nat):Int)))=true)→((0:Int)≤y1.2)),
  (((decide (y1.2 < (((v_expn p1 (v_mdls p0)).length:Nat):Int)))=true)→(y1.2 < (((v_expn p1 (v_mdls p0)).length:Nat):Int))),
  (((decide (y1.2 < (((v_expn p1 (v_mdls p0)).length:Nat):Int)))=true)→(v_cne p0)),
  (((decide (y1.2 < (((v_expn p1 (v_mdls p0)).length:Nat):Int)))=true)→(((0:Int)≤(List.getD (v_expn p1 (v_mdls p0)) y1.2.toNat (0:Int)))∧((List.getD (v_expn p1 (v_mdls p0)) y1.2.toNat (0:Int))≤9223372036854775807))),
  (((decide (y1.2 < (((v_expn p1 (v_mdls p0)).length:Nat):Int)))=true)→(OkL (st_ground_RangesOf_0 p0 p1 y1) (sp_ground_RangesOf_0 p0 p1 y1) ((0:Int),y1.1)))]
def s_ground_RangesOf (p0:(List ((List Int)×(List Int)))) (p1:(List (Int×(Int×Int)))):((List ((Int×Int)×(Int×Int)))×Int) :=
 (cond ((v_first ((v_cc p0).2 :: ((v_cd p1).2 :: ([]:List Int)))) != 0) (([]:List ((Int×Int)×(Int×Int))),(v_first ((v_cc p0).2 :: ((v_cd p1).2 :: ([]:List Int)))))
  (lpv ([],(0:Int)) (st_ground_RangesOf_1 p0 p1) (([]:List ((Int×Int)×(Int×Int))),(0:Int))))
abbrev pre_ground_RangesOf (p0:(List ((List Int)×(List Int)))) (p1:(List (Int×(Int×Int)))):List Prop := [(v_few p0),
  ((((v_first ((v_cc p0).2 :: ((v_cd p1).2 :: ([]:List Int)))) != 0)=false)→(v_clok p0)),
  ((((v_first ((v_cc p0).2 :: ((v_cd p1).2 :: ([]:List Int)))) != 0)=false)→(v_dat p1)),
  ((((v_first ((v_cc p0).2 :: ((v_cd p1).2 :: ([]:List Int)))) != 0)=false)→(OkL (st_ground_RangesOf_1 p0 p1) (sp_ground_RangesOf_1 p0 p1) (([]:List ((Int×Int)×(Int×Int))),(0:Int))))]
set_option maxHeartbeats 4000000 in
theorem d_ground_RangesOf (p0:(List ((List Int)×(List Int)))) (p1:(List (Int×(Int×Int)))) (K:((List ((Int×Int)×(Int×Int)))×Int)→Prop) (hp:∀ p∈pre_ground_RangesOf p0 p1,p) (h:K (s_ground_RangesOf p0 p1)):w_ground_RangesOf p0 p1 K := by
 unfold w_ground_RangesOf
 unfold s_ground_RangesOf at h
 obtain ⟨hp0,hp1,hp2,hp3,_⟩ := conj_of hp
 exact ⟨(hp0),(br' h (fun e0 h => h)
  (fun e0 h => ⟨(hp1 e0),(hp2 e0),(loop_gen (hp3 e0) h (fun y1 k1 hp h => by
 unfold st_ground_RangesOf_1 at h; obtain ⟨hp0,hp1,hp2,hp3,hp4,_⟩ := conj_of hp
 exact (br' h (fun e2 h => ⟨(hp0 e2),(hp1 e2),(hp2 e2),(hp3 e2),(loop_gen (hp4 e2) h (fun y3 k3 hp h => by
 unfold st_ground_RangesOf_0 at h; obtain ⟨hp0,hp1,hp2,hp3,hp4,hp5,hp6,_⟩ := conj_of hp
 exact (br' h (fun e4 h => ⟨(hp0 e4),(hp1 e4),(br' h (fun e5 h => ⟨(hp2 e4 e5),(hp3 e4 e5),(hp4 e4 e5),(hp3 e4 e5),(hp4 e4 e5),(hp3 e4 e5),(hp4 e4 e5),h⟩)
  (fun e5 h => ⟨(hp5 e4 e5),(hp6 e4 e5),(hp5 e4 e5),(hp6 e4 e5),(hp5 e4 e5),(hp6 e4 e5),h⟩))⟩)
  (fun e4 h => h))))⟩)
  (fun e2 h => h))))⟩))⟩
/-- Ranges,widened by a model. -/
def v_pt (y:Int×Int):(Int×Int)×(Int×Int) := ((y.1,y.1),(y.2,y.2))
def v_wd1 (x:(Int×Int)×(Int×Int)) (y:Int×Int):(Int×Int)×(Int×Int) := ((min x.1.1 y.1,max x.1.2 y.1),(min x.2.1 y.2,max x.2.2 y.2))
def v_wdm (out:List ((Int×Int)×(Int×Int))) (m:List (Int×Int)):List ((Int×Int)×(Int×Int)) := cond out.isEmpty (m.map v_pt) (List.zipWith v_wd1 out m)
def v_rngs (c:List (List Int×List Int)):List ((Int×Int)×(Int×Int))→List Int→List ((Int×Int)×(Int×Int))
 | out,[] => out
 | out,n :: r => v_rngs c (v_wdm out (v_mdl c n)) r
def v_rof (c:List (List Int×List Int)) (d:List (Int×Int×Int)):List ((Int×Int)×(Int×Int))×Int := cond ((v_cc c).2 != 0) ([],(v_cc c).2) (cond ((v_cd d).2 != 0) ([],(v_cd d).2) (v_rngs c [] (v_expn d (v_mdls c)),cond (decide (((v_rngs c [] (v_expn d (v_mdls c))).length:Int) > 0)) 0 12))
theorem v_wd1_pt (y:Int×Int):v_wd1 (v_pt y) y = v_pt y := by unfold v_wd1 v_pt; simp
theorem v_wdm_len {out:List ((Int×Int)×(Int×Int))} {m:List (Int×Int)} (h:out = [] ∨ out.length = m.length):(v_wdm out m).length = m.length := by
 unfold v_wdm
 cases out with
 | nil => simp
 | cons x r =>
  rcases h with h | h
  ·cases h
  ·simp at h ⊢; omega
/-- A round: the next layer. -/
theorem v_wdm_step {out:List ((Int×Int)×(Int×Int))} {m:List (Int×Int)} (h:out = [] ∨ out.length = m.length) {j:Nat} (hj:j < m.length) :
  (out = []→((v_wdm out m).take j ++ out.drop j).length = j∧((((v_wdm out m).take j ++ out.drop j) ++ [v_pt (m.getD j (0,0))]).set j (v_wd1 ((((v_wdm out m).take j ++ out.drop j) ++ [v_pt (m.getD j (0,0))]).getD j ((0,0),(0,0))) (m.getD j (0,0))))=(v_wdm out m).take (j + 1) ++ out.drop (j + 1)) ∧
  (out ≠ []→((v_wdm out m).take j ++ out.drop j).length = m.length∧(((v_wdm out m).take j ++ out.drop j).set j (v_wd1 (((v_wdm out m).take j ++ out.drop j).getD j ((0,0),(0,0))) (m.getD j (0,0))))=(v_wdm out m).take (j + 1) ++ out.drop (j + 1)) := by
 have hl := v_wdm_len h
 have ht:(v_wdm out m).take (j + 1)=(v_wdm out m).take j ++ [(v_wdm out m).getD j ((0,0),(0,0))] := by
  rw [List.take_add_one,List.getD_eq_getElem?_getD,List.getElem?_eq_getElem (by omega)]; rfl
 have htl:((v_wdm out m).take j).length = j := by rw [List.length_take]; omega
 constructor
 ·rintro rfl
  have hg:(v_wdm [] m).getD j ((0,0),(0,0))=v_pt (m.getD j (0,0)) := by
   show (m.map v_pt).getD j _ = _
   rw [List.getD_eq_getElem?_getD,List.getElem?_map,List.getD_eq_getElem?_getD,List.getElem?_eq_getElem hj]; rfl
  rw [ht,hg]
  generalize (v_wdm [] m).take j = w at *
  subst htl
  simp [v_wd1_pt]
 ·intro hne
  have hlen:out.length = m.length := h.resolve_left hne
  have hg:(v_wdm out m).getD j ((0,0),(0,0))=v_wd1 (out.getD j ((0,0),(0,0))) (m.getD j (0,0)) := by
   unfold v_wdm
   rw [show out.isEmpty = false by cases out with | nil => exact (hne rfl).elim | cons => rfl,cond_false]
   rw [List.getD_eq_getElem?_getD,List.getElem?_zipWith,List.getD_eq_getElem?_getD,List.getD_eq_getElem?_getD,List.getElem?_eq_getElem hj,List.getElem?_eq_getElem (show j < out.length by omega)]; rfl
  have hd:out.drop j = out.getD j ((0,0),(0,0)) :: out.drop (j + 1) := drop_getD _ (by omega)
  rw [ht,hg,hd]
  have hdl:(out.drop (j + 1)).length = m.length - (j + 1) := by rw [List.length_drop]; omega
  generalize (v_wdm out m).take j = w at *
  generalize out.drop (j + 1)=o at *
  generalize out.getD j ((0,0),(0,0))=a at *
  subst htl
  refine ⟨by simp; omega,?_⟩
  simp
theorem v_expn_mem (d:List (Int×Int×Int)):∀ (zs:List (Int×List (Int×Int))) (n:Int),n∈v_expn d zs→∃ z∈zs,z.1 = n∧v_exAll z.2 d = true
 | [],_,h => by cases h
 | z :: r,n,h => by
  have e:v_expn d (z :: r)=cond (v_exAll z.2 d) (z.1 :: v_expn d r) (v_expn d r) := rfl
  rw [e] at h
  cases c:v_exAll z.2 d <;> rw [c] at h
  ·obtain ⟨y,hy,g⟩ := v_expn_mem d r n h
   exact ⟨y,List.mem_cons_of_mem _ hy,g⟩
  ·rcases List.mem_cons.1 h with rfl | h
   ·exact ⟨z,by simp,rfl,c⟩
   ·obtain ⟨y,hy,g⟩ := v_expn_mem d r n h
    exact ⟨y,List.mem_cons_of_mem _ hy,g⟩
theorem v_expn_len (d:List (Int×Int×Int)):∀ (zs:List (Int×List (Int×Int))),(v_expn d zs).length≤zs.length
 | [] => Nat.le_refl _
 | z :: r => by
  have e:v_expn d (z :: r)=cond (v_exAll z.2 d) (z.1 :: v_expn d r) (v_expn d r) := rfl
  have := v_expn_len d r
  rw [e]
  cases v_exAll z.2 d
  ·rw [cond_false,List.length_cons]; omega
  ·rw [cond_true,List.length_cons,List.length_cons]; omega
theorem v_expn_num {d:List (Int×Int×Int)} {l:List (List Int×List Int)} {n:Int} (h:n∈v_expn d (v_mdls l)):0≤n∧n < v_count l := by
 obtain ⟨z,hz,rfl,_⟩ := v_expn_mem d _ _ h
 unfold v_mdls at hz
 obtain ⟨k,hk,rfl⟩ := List.mem_map.1 hz
 have := List.mem_range.1 hk
 show (0:Int)≤(k:Int)∧(k:Int) < _
 omega
theorem l_ground_RangesOf_0 (p0:List (List Int×List Int)) (p1:List (Int×Int×Int)) (y1:List ((Int×Int)×(Int×Int))×Int) (hl:(v_mdl p0 ((v_expn p1 (v_mdls p0)).getD y1.2.toNat 0)).length≤4) (ho:y1.1 = [] ∨ y1.1.length = (v_mdl p0 ((v_expn p1 (v_mdls p0)).getD y1.2.toNat 0)).length) :
  OkL (st_ground_RangesOf_0 p0 p1 y1) (sp_ground_RangesOf_0 p0 p1 y1) (0,y1.1)∧lpv (Sum.inr ([],0)) (st_ground_RangesOf_0 p0 p1 y1) (0,y1.1)=Sum.inl (v_wdm y1.1 (v_mdl p0 ((v_expn p1 (v_mdls p0)).getD y1.2.toNat 0)),IntKind.i64.wrap (y1.2 + 1)) := by
 have hw := v_wdm_len ho
 refine @for_is (List ((Int×Int)×(Int×Int))) (Int×List ((Int×Int)×(Int×Int))) ((List ((Int×Int)×(Int×Int))×Int) ⊕ (List ((Int×Int)×(Int×Int))×Int)) (Sum.inr ([],0)) (st_ground_RangesOf_0 p0 p1 y1) (sp_ground_RangesOf_0 p0 p1 y1) (fun i t => (i,t)) 0 (v_mdl p0 ((v_expn p1 (v_mdls p0)).getD y1.2.toNat 0)).length
  (fun j t => t = (v_wdm y1.1 (v_mdl p0 ((v_expn p1 (v_mdls p0)).getD y1.2.toNat 0))).take j ++ y1.1.drop j) (fun _ _ => Sum.inl (v_wdm y1.1 (v_mdl p0 ((v_expn p1 (v_mdls p0)).getD y1.2.toNat 0)),IntKind.i64.wrap (y1.2 + 1))) (by omega) (by omega) ?_ ?_ y1.1 (by simp)
 ·rintro t rfl
  have hd0:y1.1.drop (v_mdl p0 ((v_expn p1 (v_mdls p0)).getD y1.2.toNat 0)).length = [] := List.drop_eq_nil_of_le (by rcases ho with h | h <;> rw [h] <;> simp)
  have ht0:(v_wdm y1.1 (v_mdl p0 ((v_expn p1 (v_mdls p0)).getD y1.2.toNat 0))).take (v_mdl p0 ((v_expn p1 (v_mdls p0)).getD y1.2.toNat 0)).length = v_wdm y1.1 (v_mdl p0 ((v_expn p1 (v_mdls p0)).getD y1.2.toNat 0)) := List.take_of_length_le (by omega)
  rw [hd0,ht0,List.append_nil]
  simp only [sp_ground_RangesOf_0,st_ground_RangesOf_0,List.forall_mem_cons,show decide (((v_mdl p0 ((v_expn p1 (v_mdls p0)).getD y1.2.toNat 0)).length:Int) < ((v_mdl p0 ((v_expn p1 (v_mdls p0)).getD y1.2.toNat 0)).length:Int))=false from decide_eq_false (by omega),cond_false]
  refine ⟨?_,trivial⟩
  and_intros
  all_goals first
   | (intro h; cases h; done)
   | (intro p hp; cases hp)
 ·rintro j t - hj rfl
  have hd1:decide ((j:Int) < ((v_mdl p0 ((v_expn p1 (v_mdls p0)).getD y1.2.toNat 0)).length:Int))=true := decide_eq_true (by omega)
  have hw1:IntKind.i64.wrap ((j:Int) + 1)=((j + 1:Nat):Int) := wrap_id (by omega) (by omega)
  obtain ⟨s1,s2⟩ := v_wdm_step ho hj
  unfold sp_ground_RangesOf_0 st_ground_RangesOf_0
  simp only [List.forall_mem_cons,hd1,cond_true,Int.toNat_natCast,hw1]
  by_cases hy:y1.1 = []
  ·obtain ⟨a1,a2⟩ := s1 hy
   generalize (v_wdm y1.1 (v_mdl p0 ((v_expn p1 (v_mdls p0)).getD y1.2.toNat 0))).take j ++ y1.1.drop j = w at *
   have hb:((j:Int) == (w.length:Int))=true := beq_iff_eq.2 (by omega)
   rw [hb]
   refine ⟨?_,.inl ⟨_,rfl,a2,trivial⟩⟩
   and_intros
   all_goals first
    | (intro p hp; cases hp; done)
    | (intros; simp only [List.length_append,List.length_cons,List.length_nil]; omega)
    | (intros; omega)
    | (intro _ h; cases h)
  ·obtain ⟨a1,a2⟩ := s2 hy
   generalize (v_wdm y1.1 (v_mdl p0 ((v_expn p1 (v_mdls p0)).getD y1.2.toNat 0))).take j ++ y1.1.drop j = w at *
   have hb:((j:Int) == (w.length:Int))=false := beq_eq_false_iff_ne.2 (by omega)
   rw [hb]
   refine ⟨?_,.inl ⟨_,rfl,a2,trivial⟩⟩
   and_intros
   all_goals first
    | (intro p hp; cases hp; done)
    | (intro _ h; cases h; done)
    | (intros; omega)
theorem l_ground_RangesOf_1 (p0:List (List Int×List Int)) (p1:List (Int×Int×Int)) (hc:v_clok p0):OkL (st_ground_RangesOf_1 p0 p1) (sp_ground_RangesOf_1 p0 p1) ([],0)∧lpv ([],0) (st_ground_RangesOf_1 p0 p1) ([],0)=(v_rngs p0 [] (v_expn p1 (v_mdls p0)),cond (decide (((v_rngs p0 [] (v_expn p1 (v_mdls p0))).length:Int) > 0)) 0 12) := by
 have hcnt := hc.cnt
 have hnn := v_count_nn p0
 have hel := v_expn_len p1 (v_mdls p0)
 rw [v_mdls_len] at hel
 have main := @for_is (List ((Int×Int)×(Int×Int))) (List ((Int×Int)×(Int×Int))×Int) (List ((Int×Int)×(Int×Int))×Int) ([],0) (st_ground_RangesOf_1 p0 p1) (sp_ground_RangesOf_1 p0 p1) (fun i t => (t,i)) 0 (v_expn p1 (v_mdls p0)).length
  (fun _ t => t = [] ∨ t.length = p0.length) (fun k t => (v_rngs p0 t ((v_expn p1 (v_mdls p0)).drop k),cond (decide (((v_rngs p0 t ((v_expn p1 (v_mdls p0)).drop k)).length:Int) > 0)) 0 12)) (by omega) (by omega) ?_ ?_ [] (.inl rfl)
 ·exact main
 ·intro t _
  simp only [sp_ground_RangesOf_1,st_ground_RangesOf_1,List.forall_mem_cons,show decide (((v_expn p1 (v_mdls p0)).length:Int) < ((v_expn p1 (v_mdls p0)).length:Int))=false from decide_eq_false (by omega),cond_false,List.drop_length,tx_unless]
  refine ⟨?_,rfl⟩
  and_intros
  all_goals first
   | (intro h; cases h; done)
   | (intro p hp; cases hp)
 ·intro k t _ hk ht
  have hd1:decide ((k:Int) < ((v_expn p1 (v_mdls p0)).length:Int))=true := decide_eq_true (by omega)
  have hw1:IntKind.i64.wrap ((k:Int) + 1)=((k + 1:Nat):Int) := wrap_id (by omega) (by omega)
  have hnum := v_expn_num (v_getD_mem (d := 0) hk)
  have hml:(v_mdl p0 ((v_expn p1 (v_mdls p0)).getD k 0)).length = p0.length := v_mod_len _ _
  have hl4 := hc.cne.len
  have ho:t = [] ∨ t.length = (v_mdl p0 ((v_expn p1 (v_mdls p0)).getD k 0)).length := by rw [hml]; exact ht
  obtain ⟨o1,o2⟩ := l_ground_RangesOf_0 p0 p1 (t,(k:Int)) (by simp only [Int.toNat_natCast]; omega) (by simp only [Int.toNat_natCast]; exact ho)
  simp only [Int.toNat_natCast,hw1] at o1 o2
  have hdr := drop_getD (0:Int) hk
  refine ⟨?_,.inl ⟨v_wdm t (v_mdl p0 ((v_expn p1 (v_mdls p0)).getD k 0)),?_,.inr ?_,?_⟩⟩
  ·simp only [sp_ground_RangesOf_1,List.forall_mem_cons,Int.toNat_natCast]
   and_intros
   all_goals first
    | (intro p hp; cases hp; done)
    | exact fun _ => o1
    | exact fun _ => hc.cne
    | (intros; omega)
  ·unfold st_ground_RangesOf_1
   simp only [hd1,cond_true]
   exact o2
  ·rw [v_wdm_len ho,hml]
  ·rw [hdr]; rfl
abbrev t_ground_RangesOf (p0:List (List Int×List Int)) (p1:List (Int×Int×Int)):List ((Int×Int)×(Int×Int))×Int := v_rof p0 p1
abbrev qre_ground_RangesOf (p0:List (List Int×List Int)) (_p1:List (Int×Int×Int)):List Prop := [v_few p0]
theorem pp_ground_RangesOf (p0:List (List Int×List Int)) (p1:List (Int×Int×Int)) (hq:∀ p∈qre_ground_RangesOf p0 p1,p):∀ p∈pre_ground_RangesOf p0 p1,p := by
 obtain ⟨h1,_⟩ := conj_of hq
 simp only [pre_ground_RangesOf,List.forall_mem_cons]
 exact ⟨h1,fun h => tx_cc_ok h1 (tx_first1 h).1,fun h => (tx_cd_ok (tx_first1 h).2).1,fun h => (l_ground_RangesOf_1 p0 p1 (tx_cc_ok h1 (tx_first1 h).1)).1,(by intro p hp; cases hp)⟩
theorem tt_ground_RangesOf (p0:List (List Int×List Int)) (p1:List (Int×Int×Int)) (hq:∀ p∈qre_ground_RangesOf p0 p1,p):s_ground_RangesOf p0 p1 = t_ground_RangesOf p0 p1 := by
 obtain ⟨h1,_⟩ := conj_of hq
 unfold s_ground_RangesOf t_ground_RangesOf v_rof
 rw [tx_first2]
 rcases int0 (v_cc p0).2 with ⟨z,e,_⟩ | ⟨z,e,_⟩ <;> rw [e]
 ·rcases int0 (v_cd p1).2 with ⟨y,f,_⟩ | ⟨y,f,_⟩ <;> rw [cond_false,f]
  ·exact (l_ground_RangesOf_1 p0 p1 (tx_cc_ok h1 z)).2
  ·rfl
 ·rw [cond_true,e]; rfl

abbrev con_ground_RangesOf:Con := ⟨P_ground_RangesOf,R_ground_RangesOf,fun x => qre_ground_RangesOf x.1 x.2,fun x => t_ground_RangesOf x.1 x.2⟩
theorem ok_ground_RangesOf:ConOk Try.prog 50 con_ground_RangesOf := ⟨k_ground_RangesOf,fun x hx => ret_tf (ps := P_ground_RangesOf) (rs := R_ground_RangesOf) (x := x) (y := t_ground_RangesOf x.1 x.2) e_ground_RangesOf hC_ground_RangesOf (tf_of (w_ground_RangesOf_eq x.1 x.2 (fun z => z = t_ground_RangesOf x.1 x.2)) (d_ground_RangesOf x.1 x.2 (fun z => z = t_ground_RangesOf x.1 x.2) (pp_ground_RangesOf x.1 x.2 hx) (tt_ground_RangesOf x.1 x.2 hx)))⟩
/- ground_CountOf -/
def C_ground_CountOf:Cons := [(93,[],con_ground_open),(94,[],con_ground_class_count)]
theorem hC_ground_CountOf:ConsOk Try.prog C_ground_CountOf := ConsOk.cons ok_ground_open <| ConsOk.cons ok_ground_class_count <| ConsOk.nil
def w_ground_CountOf (p0:(List ((List Int)×(List Int)))) (K:(Int×Int)→Prop):Prop :=
  ((v_few p0) ∧
 (((((v_cc p0).2 != 0)=true) →
 (K ((0:Int),(v_cc p0).2))) ∧
 ((((v_cc p0).2 != 0)=false) →
 ((v_few p0) ∧
  ((p0.length≤4) ∧
  (K ((v_count p0),(0:Int))))))))
set_option maxHeartbeats 4000000 in
theorem w_ground_CountOf_eq (p0:(List ((List Int)×(List Int)))) (K:(Int×Int)→Prop):tfn F_ground_CountOf A_ground_CountOf C_ground_CountOf P_ground_CountOf R_ground_CountOf p0 K = w_ground_CountOf p0 K := by kernel_rfl
def s_ground_CountOf (p0:(List ((List Int)×(List Int)))):(Int×Int) :=
 (cond ((v_cc p0).2 != 0) ((0:Int),(v_cc p0).2)
  ((v_count p0),(0:Int)))
abbrev pre_ground_CountOf (p0:(List ((List Int)×(List Int)))):List Prop := [(v_few p0),
  ((((v_cc p0).2 != 0)=false)→(v_few p0)),
  ((((v_cc p0).2 != 0)=false)→(p0.length≤4))]
set_option maxHeartbeats 4000000 in
theorem d_ground_CountOf (p0:(List ((List Int)×(List Int)))) (K:(Int×Int)→Prop) (hp:∀ p∈pre_ground_CountOf p0,p) (h:K (s_ground_CountOf p0)):w_ground_CountOf p0 K := by
 unfold w_ground_CountOf
 unfold s_ground_CountOf at h
 obtain ⟨hp0,hp1,hp2,_⟩ := conj_of hp
 exact ⟨(hp0),(br' h (fun e0 h => h)
  (fun e0 h => ⟨(hp1 e0),(hp2 e0),h⟩))⟩
def v_cof (l:List (List Int×List Int)):Int×Int := cond ((v_cc l).2 != 0) (0,(v_cc l).2) (v_count l,0)
abbrev t_ground_CountOf (p0:List (List Int×List Int)):Int×Int := v_cof p0
abbrev qre_ground_CountOf (p0:List (List Int×List Int)):List Prop := [v_few p0]
theorem pp_ground_CountOf (p0:List (List Int×List Int)) (hq:∀ p∈qre_ground_CountOf p0,p):∀ p∈pre_ground_CountOf p0,p := by
 obtain ⟨h1,_⟩ := conj_of hq
 simp only [pre_ground_CountOf,List.forall_mem_cons]
 exact ⟨h1,fun _ => h1,fun h => (tx_cc_ok h1 (by simpa using h)).cne.len,(by intro p hp; cases hp)⟩
theorem tt_ground_CountOf (p0:List (List Int×List Int)) (_hq:∀ p∈qre_ground_CountOf p0,p):s_ground_CountOf p0 = t_ground_CountOf p0 := by
 rfl

abbrev con_ground_CountOf:Con := ⟨P_ground_CountOf,R_ground_CountOf,fun x => qre_ground_CountOf x,fun x => t_ground_CountOf x⟩
theorem ok_ground_CountOf:ConOk Try.prog 30 con_ground_CountOf := ⟨k_ground_CountOf,fun x hx => ret_tf (ps := P_ground_CountOf) (rs := R_ground_CountOf) (x := x) (y := t_ground_CountOf x) e_ground_CountOf hC_ground_CountOf (tf_of (w_ground_CountOf_eq x (fun z => z = t_ground_CountOf x)) (d_ground_CountOf x (fun z => z = t_ground_CountOf x) (pp_ground_CountOf x hx) (tt_ground_CountOf x hx)))⟩
/- ground_ModelOf -/
def C_ground_ModelOf:Cons := [(93,[],con_ground_open),(94,[],con_ground_class_count),(95,[],con_ground_within),(74,[],con_ground_unless),(96,[],con_ground_class_model)]
theorem hC_ground_ModelOf:ConsOk Try.prog C_ground_ModelOf := ConsOk.cons ok_ground_open <| ConsOk.cons ok_ground_class_count <| ConsOk.cons ok_ground_within <| ConsOk.cons ok_ground_unless <| ConsOk.cons ok_ground_class_model <| ConsOk.nil
def w_ground_ModelOf (p0:(List ((List Int)×(List Int)))) (p1:Int) (K:((List (Int×Int))×Int)→Prop):Prop :=
  ((v_few p0) ∧
 (((((v_cc p0).2 == 0)=true) →
 ((v_few p0) ∧
  ((p0.length≤4) ∧
  (((((s_ground_unless (s_ground_within p1 (0:Int) (IntKind.i64.wrap ((v_count p0) - 1))) (6:Int)) != 0)=true) →
  (K (([]:List (Int×Int)),(s_ground_unless (s_ground_within p1 (0:Int) (IntKind.i64.wrap ((v_count p0) - 1))) (6:Int))))) ∧
  ((((s_ground_unless (s_ground_within p1 (0:Int) (IntKind.i64.wrap ((v_count p0) - 1))) (6:Int)) != 0)=false) →
  ((v_cne p0) ∧
   ((((0:Int)≤p1) ∧
   (p1≤9223372036854775807)) ∧
   (K ((v_mdl p0 p1),(0:Int)))))))))) ∧
 ((((v_cc p0).2 == 0)=false) →
 (((((v_cc p0).2 != 0)=true) →
  (K (([]:List (Int×Int)),(v_cc p0).2))) ∧
  ((((v_cc p0).2 != 0)=false) →
  ((v_cne p0) ∧
   ((((0:Int)≤p1) ∧
   (p1≤9223372036854775807)) ∧
   (K ((v_mdl p0 p1),(0:Int))))))))))
set_option maxHeartbeats 4000000 in
theorem w_ground_ModelOf_eq (p0:(List ((List Int)×(List Int)))) (p1:Int) (K:((List (Int×Int))×Int)→Prop):tfn F_ground_ModelOf A_ground_ModelOf C_ground_ModelOf P_ground_ModelOf R_ground_ModelOf (p0,p1) K = w_ground_ModelOf p0 p1 K := by kernel_rfl
def s_ground_ModelOf (p0:(List ((List Int)×(List Int)))) (p1:Int):((List (Int×Int))×Int) :=
 (cond ((v_cc p0).2 == 0) (cond ((s_ground_unless (s_ground_within p1 (0:Int) (IntKind.i64.wrap ((v_count p0) - 1))) (6:Int)) != 0) (([]:List (Int×Int)),(s_ground_unless (s_ground_within p1 (0:Int) (IntKind.i64.wrap ((v_count p0) - 1))) (6:Int)))
  ((v_mdl p0 p1),(0:Int)))
  (cond ((v_cc p0).2 != 0) (([]:List (Int×Int)),(v_cc p0).2)
  ((v_mdl p0 p1),(0:Int))))
abbrev pre_ground_ModelOf (p0:(List ((List Int)×(List Int)))) (p1:Int):List Prop := [(v_few p0),
  ((((v_cc p0).2 == 0)=true)→(v_few p0)),
  ((((v_cc p0).2 == 0)=true)→(p0.length≤4)),
  ((((v_cc p0).2 == 0)=true)→((((s_ground_unless (s_ground_within p1 (0:Int) (IntKind.i64.wrap ((v_count p0) - 1))) (6:Int)) != 0)=false)→(v_cne p0))),
  ((((v_cc p0).2 == 0)=true)→((((s_ground_unless (s_ground_within p1 (0:Int) (IntKind.i64.wrap ((v_count p0) - 1))) (6:Int)) != 0)=false)→(((0:Int)≤p1)∧(p1≤9223372036854775807)))),
  ((((v_cc p0).2 == 0)=false)→((((v_cc p0).2 != 0)=false)→(v_cne p0))),
  ((((v_cc p0).2 == 0)=false)→((((v_cc p0).2 != 0)=false)→(((0:Int)≤p1)∧(p1≤9223372036854775807))))]
set_option maxHeartbeats 4000000 in
theorem d_ground_ModelOf (p0:(List ((List Int)×(List Int)))) (p1:Int) (K:((List (Int×Int))×Int)→Prop) (hp:∀ p∈pre_ground_ModelOf p0 p1,p) (h:K (s_ground_ModelOf p0 p1)):w_ground_ModelOf p0 p1 K := by
 unfold w_ground_ModelOf
 unfold s_ground_ModelOf at h
 obtain ⟨hp0,hp1,hp2,hp3,hp4,hp5,hp6,_⟩ := conj_of hp
 exact ⟨(hp0),(br' h (fun e0 h => ⟨(hp1 e0),(hp2 e0),(br' h (fun e1 h => h)
  (fun e1 h => ⟨(hp3 e0 e1),(hp4 e0 e1),h⟩))⟩)
  (fun e0 h => (br' h (fun e2 h => h)
  (fun e2 h => ⟨(hp5 e0 e2),(hp6 e0 e2),h⟩))))⟩
def v_mof2 (l:List (List Int×List Int)) (k:Int):List (Int×Int)×Int := cond ((v_cc l).2 != 0) ([],(v_cc l).2) (cond (s_base_Within k 0 (v_count l - 1)) (v_mdl l k,0) ([],6))
abbrev t_ground_ModelOf (p0:List (List Int×List Int)) (p1:Int):List (Int×Int)×Int := v_mof2 p0 p1
abbrev qre_ground_ModelOf (p0:List (List Int×List Int)) (_p1:Int):List Prop := [v_few p0]
theorem pp_ground_ModelOf (p0:List (List Int×List Int)) (p1:Int) (hq:∀ p∈qre_ground_ModelOf p0 p1,p):∀ p∈pre_ground_ModelOf p0 p1,p := by
 obtain ⟨h1,_⟩ := conj_of hq
 have k1:((v_cc p0).2 == 0)=true→v_clok p0 := fun h => tx_cc_ok h1 (by simpa using h)
 have k2:((v_cc p0).2 == 0)=false→((v_cc p0).2 != 0)=false→False := fun h h' => by simp at h h'; exact h h'
 simp only [pre_ground_ModelOf,List.forall_mem_cons]
 refine ⟨h1,fun _ => h1,fun h => (k1 h).cne.len,fun h _ => (k1 h).cne,fun h g => ?_,fun h g => (k2 h g).elim,fun h g => (k2 h g).elim,(by intro p hp; cases hp)⟩
 have hc := (k1 h).cnt
 have hn := v_count_nn p0
 have g2 := tx_unless0 (x := 6) (by decide) (by simpa using g)
 rw [wrap_id (n := v_count p0 - 1) (by omega) (by omega),tx_withinG] at g2
 have := tx_within.1 g2
 omega
theorem tt_ground_ModelOf (p0:List (List Int×List Int)) (p1:Int) (hq:∀ p∈qre_ground_ModelOf p0 p1,p):s_ground_ModelOf p0 p1 = t_ground_ModelOf p0 p1 := by
 obtain ⟨h1,_⟩ := conj_of hq
 unfold s_ground_ModelOf t_ground_ModelOf v_mof2
 rcases int0 (v_cc p0).2 with ⟨z,e,e2⟩ | ⟨z,e,e2⟩ <;> rw [e,e2]
 ·have hc := (tx_cc_ok h1 z).cnt
  have hn := v_count_nn p0
  rw [wrap_id (n := v_count p0 - 1) (by omega) (by omega),tx_withinG,tx_unless]
  cases s_base_Within p1 0 (v_count p0 - 1) <;> rfl
 ·rfl

abbrev con_ground_ModelOf:Con := ⟨P_ground_ModelOf,R_ground_ModelOf,fun x => qre_ground_ModelOf x.1 x.2,fun x => t_ground_ModelOf x.1 x.2⟩
theorem ok_ground_ModelOf:ConOk Try.prog 31 con_ground_ModelOf := ⟨k_ground_ModelOf,fun x hx => ret_tf (ps := P_ground_ModelOf) (rs := R_ground_ModelOf) (x := x) (y := t_ground_ModelOf x.1 x.2) e_ground_ModelOf hC_ground_ModelOf (tf_of (w_ground_ModelOf_eq x.1 x.2 (fun z => z = t_ground_ModelOf x.1 x.2)) (d_ground_ModelOf x.1 x.2 (fun z => z = t_ground_ModelOf x.1 x.2) (pp_ground_ModelOf x.1 x.2 hx) (tt_ground_ModelOf x.1 x.2 hx)))⟩
/- ref04_CopyModel -/
def C_ref04_CopyModel:Cons := []
theorem hC_ref04_CopyModel:ConsOk Try.prog C_ref04_CopyModel := ConsOk.nil
def w_ref04_CopyModel (p0:(List (Int×Int))) (K:(List (Int×Int))→Prop):Prop :=
  (((((List.length ([]:List (Int×Int))) + p0.length) * 16)≤140737488355328) ∧
 (K (([]:List (Int×Int)) ++ p0)))
set_option maxHeartbeats 4000000 in
theorem w_ref04_CopyModel_eq (p0:(List (Int×Int))) (K:(List (Int×Int))→Prop):tfnA F_ref04_CopyModel A_ref04_CopyModel C_ref04_CopyModel P_ref04_CopyModel E_ref04_CopyModel p0 K = w_ref04_CopyModel p0 K := by kernel_rfl
def s_ref04_CopyModel (p0:(List (Int×Int))):(List (Int×Int)) :=
 (([]:List (Int×Int)) ++ p0)
abbrev pre_ref04_CopyModel (p0:(List (Int×Int))):List Prop := [((((List.length ([]:List (Int×Int))) + p0.length) * 16)≤140737488355328)]
set_option maxHeartbeats 4000000 in
theorem d_ref04_CopyModel (p0:(List (Int×Int))) (K:(List (Int×Int))→Prop) (hp:∀ p∈pre_ref04_CopyModel p0,p) (h:K (s_ref04_CopyModel p0)):w_ref04_CopyModel p0 K := by
 unfold w_ref04_CopyModel
 unfold s_ref04_CopyModel at h
 obtain ⟨hp0,_⟩ := conj_of hp
 exact ⟨(hp0),h⟩
abbrev con_ref04_CopyModel:Con := ⟨P_ref04_CopyModel,[.agg (.sl E_ref04_CopyModel)],fun x => pre_ref04_CopyModel x,fun x => s_ref04_CopyModel x⟩
theorem ok_ref04_CopyModel:ConOOk Try.prog 15 con_ref04_CopyModel := conA_tf (e := E_ref04_CopyModel) (ps := P_ref04_CopyModel) k_ref04_CopyModel e_ref04_CopyModel hC_ref04_CopyModel (fun x hx => tfa_of (w_ref04_CopyModel_eq x (fun z => z = s_ref04_CopyModel x)) (d_ref04_CopyModel x (fun z => z = s_ref04_CopyModel x) hx rfl))
/- ground_Explains -/
def C_ground_Explains:Cons := [(77,[],con_ground_modelErr),(101,[],con_ground_dataErr),(73,[],con_ground_first),(106,[],con_ground_explainsAll)]
theorem hC_ground_Explains:ConsOk Try.prog C_ground_Explains := ConsOk.cons ok_ground_modelErr <| ConsOk.cons ok_ground_dataErr <| ConsOk.cons ok_ground_first <| ConsOk.cons ok_ground_explainsAll <| ConsOk.nil
def w_ground_Explains (p0:(List (Int×Int))) (p1:(List (Int×(Int×Int)))) (K:(Bool×Int)→Prop):Prop :=
  ((lenOk ((v_cm p0).2 :: ((v_cd p1).2 :: ([]:List Int)))) ∧
 (((((v_first ((v_cm p0).2 :: ((v_cd p1).2 :: ([]:List Int)))) != 0)=true) →
 (K (false,(v_first ((v_cm p0).2 :: ((v_cd p1).2 :: ([]:List Int))))))) ∧
 ((((v_first ((v_cm p0).2 :: ((v_cd p1).2 :: ([]:List Int)))) != 0)=false) →
 ((v_mok p0) ∧
  ((v_dat p1) ∧
  (K ((v_exAll p0 p1),(0:Int))))))))
set_option maxHeartbeats 4000000 in
theorem w_ground_Explains_eq (p0:(List (Int×Int))) (p1:(List (Int×(Int×Int)))) (K:(Bool×Int)→Prop):tfn F_ground_Explains A_ground_Explains C_ground_Explains P_ground_Explains R_ground_Explains (p0,p1) K = w_ground_Explains p0 p1 K := by kernel_rfl
def s_ground_Explains (p0:(List (Int×Int))) (p1:(List (Int×(Int×Int)))):(Bool×Int) :=
 (cond ((v_first ((v_cm p0).2 :: ((v_cd p1).2 :: ([]:List Int)))) != 0) (false,(v_first ((v_cm p0).2 :: ((v_cd p1).2 :: ([]:List Int)))))
  ((v_exAll p0 p1),(0:Int)))
abbrev pre_ground_Explains (p0:(List (Int×Int))) (p1:(List (Int×(Int×Int)))):List Prop := [((((v_first ((v_cm p0).2 :: ((v_cd p1).2 :: ([]:List Int)))) != 0)=false)→(v_mok p0)),
  ((((v_first ((v_cm p0).2 :: ((v_cd p1).2 :: ([]:List Int)))) != 0)=false)→(v_dat p1))]
set_option maxHeartbeats 4000000 in
theorem d_ground_Explains (p0:(List (Int×Int))) (p1:(List (Int×(Int×Int)))) (K:(Bool×Int)→Prop) (hp:∀ p∈pre_ground_Explains p0 p1,p) (h:K (s_ground_Explains p0 p1)):w_ground_Explains p0 p1 K := by
 unfold w_ground_Explains
 unfold s_ground_Explains at h
 obtain ⟨hp0,hp1,_⟩ := conj_of hp
 exact ⟨(lenOk_of 2 rfl (by decide)),(br' h (fun e0 h => h)
  (fun e0 h => ⟨(hp0 e0),(hp1 e0),h⟩))⟩
/-- What is told of a model and data. -/
def v_expls (m:List (Int×Int)) (l:List (Int×Int×Int)):Bool×Int := cond ((v_cm m).2 != 0) (false,(v_cm m).2) (cond ((v_cd l).2 != 0) (false,(v_cd l).2) (v_exAll m l,0))
abbrev t_ground_Explains (p0:List (Int×Int)) (p1:List (Int×Int×Int)):Bool×Int := v_expls p0 p1
abbrev qre_ground_Explains (_p0:List (Int×Int)) (_p1:List (Int×Int×Int)):List Prop := []
theorem pp_ground_Explains (p0:List (Int×Int)) (p1:List (Int×Int×Int)) (_hq:∀ p∈qre_ground_Explains p0 p1,p):∀ p∈pre_ground_Explains p0 p1,p := by
 simp only [pre_ground_Explains,List.forall_mem_cons]
 exact ⟨fun h => tx_cm_ok (tx_first1 h).1,fun h => (tx_cd_ok (tx_first1 h).2).1,by simp⟩
theorem tt_ground_Explains (p0:List (Int×Int)) (p1:List (Int×Int×Int)) (_hq:∀ p∈qre_ground_Explains p0 p1,p):s_ground_Explains p0 p1 = t_ground_Explains p0 p1 := by
 unfold s_ground_Explains t_ground_Explains v_expls
 rw [tx_first2]
 rcases int0 (v_cm p0).2 with ⟨h0,e,_⟩ | ⟨h0,e,_⟩
 ·rw [e]; rfl
 ·rw [e]; simp only [cond_true]; rw [e]; rfl

abbrev con_ground_Explains:Con := ⟨P_ground_Explains,R_ground_Explains,fun x => qre_ground_Explains x.1 x.2,fun x => t_ground_Explains x.1 x.2⟩
theorem ok_ground_Explains:ConOk Try.prog 44 con_ground_Explains := ⟨k_ground_Explains,fun x hx => ret_tf (ps := P_ground_Explains) (rs := R_ground_Explains) (x := x) (y := t_ground_Explains x.1 x.2) e_ground_Explains hC_ground_Explains (tf_of (w_ground_Explains_eq x.1 x.2 (fun z => z = t_ground_Explains x.1 x.2)) (d_ground_Explains x.1 x.2 (fun z => z = t_ground_Explains x.1 x.2) (pp_ground_Explains x.1 x.2 hx) (tt_ground_Explains x.1 x.2 hx)))⟩
/- base_Has -/
def C_base_Has:Cons := []
theorem hC_base_Has:ConsOk Try.prog C_base_Has := ConsOk.nil
def w_base_Has (p0:(List Int)) (p1:Int) (K:Bool→Prop):Prop :=
  (∃ n0,(loopP (fun (y1:Int) k2 =>
  ((((decide (y1 < (p0.length:Int)))=true) →
  (((0:Int)≤y1) ∧
   ((y1 < (p0.length:Int)) ∧
   (((((p0.getD y1.toNat (0:Int)) == p1)=true) →
   (K true)) ∧
   ((((p0.getD y1.toNat (0:Int)) == p1)=false) →
   (k2 (IntKind.i64.wrap (y1 + 1)))))))) ∧
  (((decide (y1 < (p0.length:Int)))=false) →
  (K false)))) n0 (0:Int)))
set_option maxHeartbeats 4000000 in
theorem w_base_Has_eq (p0:(List Int)) (p1:Int) (K:Bool→Prop):tfn F_base_Has A_base_Has C_base_Has P_base_Has R_base_Has (p0,p1) K = w_base_Has p0 p1 K := by kernel_rfl
def st_base_Has_0 (p0:(List Int)) (p1:Int) (y0:Int):Int ⊕ Bool :=
 (cond (decide (y0 < (p0.length:Int))) (cond ((p0.getD y0.toNat (0:Int)) == p1) (Sum.inr true)
  (Sum.inl (IntKind.i64.wrap (y0 + 1))))
  (Sum.inr false))
abbrev sp_base_Has_0 (p0:(List Int)) (_p1:Int) (y0:Int):List Prop := [(((decide (y0 < (p0.length:Int)))=true)→((0:Int)≤y0)),
  (((decide (y0 < (p0.length:Int)))=true)→(y0 < (p0.length:Int)))]
def s_base_Has (p0:(List Int)) (p1:Int):Bool :=
 (lpv false (st_base_Has_0 p0 p1) (0:Int))
abbrev pre_base_Has (p0:(List Int)) (p1:Int):List Prop := [(OkL (st_base_Has_0 p0 p1) (sp_base_Has_0 p0 p1) (0:Int))]
set_option maxHeartbeats 4000000 in
theorem d_base_Has (p0:(List Int)) (p1:Int) (K:Bool→Prop) (hp:∀ p∈pre_base_Has p0 p1,p) (h:K (s_base_Has p0 p1)):w_base_Has p0 p1 K := by
 unfold w_base_Has
 unfold s_base_Has at h
 obtain ⟨hp0,_⟩ := conj_of hp
 exact (loop_gen (hp0) h (fun y0 k0 hp h => by
 unfold st_base_Has_0 at h; obtain ⟨hp0,hp1,_⟩ := conj_of hp
 exact (br' h (fun e1 h => ⟨(hp0 e1),(hp1 e1),(br' h (fun e2 h => h)
  (fun e2 h => h))⟩)
  (fun e1 h => h))))
theorem l_base_Has_0 (p0:List Int) (p1:Int) (hl:lenOk p0):OkL (st_base_Has_0 p0 p1) (sp_base_Has_0 p0 p1) 0∧lpv false (st_base_Has_0 p0 p1) 0 = v_scan (fun _ x => cond (x == p1) (some true) none) false 0 p0 := by
 refine scan_is p0 0 (fun _ x => cond (x == p1) (some true) none) false hl ?_ ?_
 ·refine ⟨by simp only [sp_base_Has_0,List.forall_mem_cons,decide_eq_true_eq]; simp,by simp [st_base_Has_0]⟩
 ·intro j hj
  have hj' : (j:Int) < p0.length := by omega
  refine ⟨by simp only [sp_base_Has_0,List.forall_mem_cons,decide_eq_true_eq,Int.toNat_natCast]; simp <;> omega,?_⟩
  simp only [st_base_Has_0,hj',decide_true,Int.toNat_natCast,cond_true,wrap_nat (show (j:Int)≤9223372036854775806 by unfold lenOk at hl; omega)]
  generalize p0.getD j 0 = x
  cases (x == p1) <;> rfl
def v_has (p0:List Int) (p1:Int):Bool := decide (p1∈p0)
abbrev t_base_Has (p0:List Int) (p1:Int):Bool := v_has p0 p1
abbrev qre_base_Has (p0:List Int) (_p1:Int):List Prop := [lenOk p0]
theorem pp_base_Has (p0:List Int) (p1:Int) (hq:∀ p∈qre_base_Has p0 p1,p):∀ p∈pre_base_Has p0 p1,p := by
 simp only [pre_base_Has,List.forall_mem_cons]
 exact ⟨(l_base_Has_0 p0 p1 (conj_of hq).1).1,by simp⟩
theorem tt_base_Has (p0:List Int) (p1:Int) (hq:∀ p∈qre_base_Has p0 p1,p):s_base_Has p0 p1 = t_base_Has p0 p1 := by
 refine (l_base_Has_0 p0 p1 (conj_of hq).1).2.trans ?_
 rw [v_scan_any]
 show _ = decide (p1∈p0)
 by_cases h:p1∈p0
 ·rw [decide_eq_true h,show p0.any (fun x => x == p1)=true from List.any_eq_true.2 ⟨p1,h,by simp⟩]; rfl
 ·rw [decide_eq_false h,show p0.any (fun x => x == p1)=false from List.any_eq_false.2 (fun x hx e => h (by rw [← (by simpa using e:x = p1)]; exact hx))]; rfl

abbrev con_base_Has:Con := ⟨P_base_Has,R_base_Has,fun x => qre_base_Has x.1 x.2,fun x => t_base_Has x.1 x.2⟩
theorem ok_base_Has:ConOk Try.prog 51 con_base_Has := ⟨k_base_Has,fun x hx => ret_tf (ps := P_base_Has) (rs := R_base_Has) (x := x) (y := t_base_Has x.1 x.2) e_base_Has hC_base_Has (tf_of (w_base_Has_eq x.1 x.2 (fun z => z = t_base_Has x.1 x.2)) (d_base_Has x.1 x.2 (fun z => z = t_base_Has x.1 x.2) (pp_base_Has x.1 x.2 hx) (tt_base_Has x.1 x.2 hx)))⟩
/- base_Mod -/
def C_base_Mod:Cons := []
theorem hC_base_Mod:ConsOk Try.prog C_base_Mod := ConsOk.nil
def w_base_Mod (p0:Int) (p1:Int) (K:Int→Prop):Prop :=
  ((p1 ≠ (0:Int)) ∧
 ((((decide ((Int.tmod p0 p1) < 0))=true) →
 (K (IntKind.i64.wrap ((Int.tmod p0 p1) + p1)))) ∧
 (((decide ((Int.tmod p0 p1) < 0))=false) →
 (K (Int.tmod p0 p1)))))
set_option maxHeartbeats 4000000 in
theorem w_base_Mod_eq (p0:Int) (p1:Int) (K:Int→Prop):tfn F_base_Mod A_base_Mod C_base_Mod P_base_Mod R_base_Mod (p0,p1) K = w_base_Mod p0 p1 K := by kernel_rfl
def s_base_Mod (p0:Int) (p1:Int):Int :=
 (cond (decide ((Int.tmod p0 p1) < 0)) (IntKind.i64.wrap ((Int.tmod p0 p1) + p1))
  (Int.tmod p0 p1))
abbrev pre_base_Mod (_p0:Int) (p1:Int):List Prop := [(p1 ≠ (0:Int))]
set_option maxHeartbeats 4000000 in
theorem d_base_Mod (p0:Int) (p1:Int) (K:Int→Prop) (hp:∀ p∈pre_base_Mod p0 p1,p) (h:K (s_base_Mod p0 p1)):w_base_Mod p0 p1 K := by
 unfold w_base_Mod
 unfold s_base_Mod at h
 obtain ⟨hp0,_⟩ := conj_of hp
 exact ⟨(hp0),(br' h (fun e0 h => h)
  (fun e0 h => h))⟩
abbrev t_base_Mod (p0 p1:Int):Int := p0 % p1
abbrev qre_base_Mod (_p0 p1:Int):List Prop := [0 < p1∧p1≤1000000000000]
theorem pp_base_Mod (p0 p1:Int) (hq:∀ p∈qre_base_Mod p0 p1,p):∀ p∈pre_base_Mod p0 p1,p := by
 have h := (conj_of hq).1
 simp only [pre_base_Mod,List.forall_mem_cons]
 exact ⟨by omega,by simp⟩
theorem tt_base_Mod (p0 p1:Int) (hq:∀ p∈qre_base_Mod p0 p1,p):s_base_Mod p0 p1 = t_base_Mod p0 p1 := by
 have h := (conj_of hq).1
 unfold s_base_Mod t_base_Mod
 have h1 := v_tmod_lt (a := p0) (b := p1) (by omega)
 have h2 := Int.mul_tdiv_add_tmod p0 p1
 cases c:decide (p0.tmod p1 < 0)
 ·have := of_decide_eq_false c
  simp only [cond_false]
  exact ((Int.ediv_emod_unique (a := p0) (b := p1) (q := p0.tdiv p1) (r := p0.tmod p1) h.1).2 ⟨by omega,by omega,by omega⟩).2.symm
 ·have := of_decide_eq_true c
  simp only [cond_true]
  rw [wrap_id (by omega) (by omega)]
  have e:p1 * (p0.tdiv p1 - 1)=p1 * p0.tdiv p1 - p1 := by rw [Int.mul_sub,Int.mul_one]
  exact ((Int.ediv_emod_unique (a := p0) (b := p1) (q := p0.tdiv p1 - 1) (r := p0.tmod p1 + p1) h.1).2 ⟨by omega,by omega,by omega⟩).2.symm

abbrev con_base_Mod:Con := ⟨P_base_Mod,R_base_Mod,fun x => qre_base_Mod x.1 x.2,fun x => t_base_Mod x.1 x.2⟩
theorem ok_base_Mod:ConOk Try.prog 25 con_base_Mod := ⟨k_base_Mod,fun x hx => ret_tf (ps := P_base_Mod) (rs := R_base_Mod) (x := x) (y := t_base_Mod x.1 x.2) e_base_Mod hC_base_Mod (tf_of (w_base_Mod_eq x.1 x.2 (fun z => z = t_base_Mod x.1 x.2)) (d_base_Mod x.1 x.2 (fun z => z = t_base_Mod x.1 x.2) (pp_base_Mod x.1 x.2 hx) (tt_base_Mod x.1 x.2 hx)))⟩
end Go.Proofs.Ytehblgccaiiikaa
