/- What the functions that GravityStrings reaches compute: contracts, each function once. No condition. -/
import Derived.Test.YtepdfhjmngbhhaaGreatDoorWalkGravityStringsA
import Derived.KernelRfl
namespace Go.Proofs.YtepdfhjmngbhhaaGreatDoor
open Go Go.Mx
set_option maxRecDepth 100000
set_option maxHeartbeats 4000000
def C_Z9:Cons := [(8,[],con_Za),(9,[],con_Z13),(170,[],con_Zy)]
theorem hC_Z9:ConsOk Tryz.prog C_Z9 := cC ok_Za <| cC ok_Z13 <| cC ok_Zy <| ConsOk.nil
abbrev q1_Z9 (p0:tQA) (y1:Int) := (p0.2.getD y1.toNat (zz0,(zz0,(zz0,zz0))))
abbrev q0_Z9 (p0:tQA) (y1:Int) := ((s_Z13 p0 (q1_Z9 p0 y1).1) != zz0)
def w_Z9 (p0:tQA) (K:(Int×Int)→Prop):Prop := ((((!(s_Za p0.1 zz1 (8:Int)))=true) →(K (zz0,zz2))) ∧(((!(s_Za p0.1 zz1 (8:Int)))=false) →((((decide ((p0.2.length:Int) > 12))=true) →(K (zz0,(8:Int)))) ∧(((decide ((p0.2.length:Int) > 12))=false) →(∃ n0,(loopP (fun (y1:Int) k2 => ((((decide (y1 < (p0.2.length:Int)))=true) →((zz0≤y1) ∧((y1 < (p0.2.length:Int)) ∧((((q0_Z9 p0 y1)=false) →((q0_Z9 p0 y1)=(q0_Z9 p0 y1))) ∧((((q0_Z9 p0 y1)=false) →((q0_Z9 p0 y1)=(q0_Z9 p0 y1))) ∧((((q0_Z9 p0 y1)=false) →((q0_Z9 p0 y1)=(q0_Z9 p0 y1))) ∧((((q0_Z9 p0 y1)=false) →((q0_Z9 p0 y1)=(q0_Z9 p0 y1))) ∧(((q0_Z9 p0 y1)=(q0_Z9 p0 y1)) ∧((((cond (q0_Z9 p0 y1) true ((s_Z13 p0 (q1_Z9 p0 y1).2.1) != zz0))=true) →(K (y1,(6:Int)))) ∧(((cond (q0_Z9 p0 y1) true ((s_Z13 p0 (q1_Z9 p0 y1).2.1) != zz0))=false) →(((((q1_Z9 p0 y1).1 == (q1_Z9 p0 y1).2.1)=true) →(K (y1,(13:Int)))) ∧((((q1_Z9 p0 y1).1 == (q1_Z9 p0 y1).2.1)=false) →(((((s_Zt (q1_Z9 p0 y1).2.2 (1000000:Int)) != zz0)=true) →(K (y1,(s_Zt (q1_Z9 p0 y1).2.2 (1000000:Int))))) ∧((((s_Zt (q1_Z9 p0 y1).2.2 (1000000:Int)) != zz0)=false) →(k2 (wi (y1 + zz1))))))))))))))))) ∧(((decide (y1 < (p0.2.length:Int)))=false) →(K (zz0,zz0))))) n0 zz0))))))
theorem w_Z9_eq (p0:tQA) (K:(Int×Int)→Prop):tfn F_Z9 A_Z9 C_Z9 P_Z9 R_Z9 p0 K = w_Z9 p0 K := by kernel_rfl
def st_Z9_0 (p0:tQA) (y2:Int):Int ⊕ (Int×Int) := (cond (decide (y2 < (p0.2.length:Int))) (cond (cond ((s_Z13 p0 (p0.2.getD y2.toNat ((0:Int),((0:Int),(0,0)))).1) != 0) true ((s_Z13 p0 (p0.2.getD y2.toNat ((0:Int),((0:Int),(0,0)))).2.1) != 0)) (Sum.inr (y2,(6:Int))) (cond ((p0.2.getD y2.toNat ((0:Int),((0:Int),(0,0)))).1 == (p0.2.getD y2.toNat ((0:Int),((0:Int),(0,0)))).2.1) (Sum.inr (y2,(13:Int))) (cond ((s_Zt (p0.2.getD y2.toNat ((0:Int),((0:Int),(0,0)))).2.2 (1000000:Int)) != 0) (Sum.inr (y2,(s_Zt (p0.2.getD y2.toNat ((0:Int),((0:Int),(0,0)))).2.2 (1000000:Int)))) (Sum.inl (IntKind.i64.wrap (y2 + 1)))))) (Sum.inr (0,0)))
abbrev sp_Z9_0 (p0:tQA) (y2:Int):List Prop := [(((decide (y2 < (p0.2.length:Int)))=true)→((0:Int)≤y2)),(((decide (y2 < (p0.2.length:Int)))=true)→(y2 < (p0.2.length:Int)))]
def s_Z9 (p0:tQA):(Int×Int) := (cond (!(s_Za p0.1 (1:Int) (8:Int))) ((0:Int),(2:Int)) (cond (decide ((p0.2.length:Int) > 12)) ((0:Int),(8:Int)) (lpv (0,0) (st_Z9_0 p0) (0:Int))))
abbrev pre_Z9 (p0:tQA):List Prop := [(((!(s_Za p0.1 (1:Int) (8:Int)))=false)→(((decide ((p0.2.length:Int) > 12))=false)→(OkL (st_Z9_0 p0) (sp_Z9_0 p0) (0:Int))))]
theorem d_Z9 (p0:tQA) (K:(Int×Int)→Prop) (hp:∀ p∈pre_Z9 p0,p) (h:K (s_Z9 p0)):w_Z9 p0 K := by
 unfold w_Z9
 unfold s_Z9 at h
 obtain ⟨hp0,_⟩ := conj_of hp
 exact (br' h (fun e0 h => h)
  (fun e0 h => (br' h (fun e1 h => h)
  (fun e1 h => (loop_gen (hp0 e0 e1) h (fun y2 k2 hp h => by
 unfold st_Z9_0 at h; obtain ⟨hp0,hp1,_⟩ := conj_of hp
 exact (br' h (fun e3 h => ⟨(hp0 e3),(hp1 e3),rf,rf,rf,rf,rfl,(br' h (fun e4 h => h)
  (fun e4 h => (br' h (fun e5 h => h)
  (fun e5 h => (br' h (fun e6 h => h)
  (fun e6 h => h))))))⟩)
  (fun e3 h => h))))))))
theorem l_Z9_0 (p0:Int×List tQC) (hl:lenOk p0.2):OkL (st_Z9_0 p0) (sp_Z9_0 p0) 0∧lpv ((0:Int),(0:Int)) (st_Z9_0 p0) 0 = v_scan (fun i t => cond (v_tierr p0.1 t != 0) (some (i,v_tierr p0.1 t)) none) ((0:Int),(0:Int)) 0 p0.2 := by
 refine scan_is p0.2 (0,0,0,0) (fun i t => cond (v_tierr p0.1 t != 0) (some (i,v_tierr p0.1 t)) none) ((0:Int),(0:Int)) hl ?_ ?_
 ·refine ⟨by simp only [sp_Z9_0,fM,decide_eq_true_eq]; simp,by simp [st_Z9_0]⟩
 ·intro j hj
  have hj' : (j:Int) < p0.2.length := by omega
  refine ⟨by simp only [sp_Z9_0,fM,decide_eq_true_eq,Int.toNat_natCast]; simp <;> omega,?_⟩
  simp only [st_Z9_0,hj',decide_true,Int.toNat_natCast,cond_true,wrap_nat (show (j:Int)≤9223372036854775806 by unfold lenOk at hl; omega)]
  generalize p0.2.getD j (0,0,0,0)=x
  simp only [s_Z13,tx_eqw]
  show cond (cond (cond (!s_Z7 x.1 0 (IntKind.i64.wrap (p0.1 - 1))) 6 0 != 0) true (cond (!s_Z7 x.2.1 0 (IntKind.i64.wrap (p0.1 - 1))) 6 0 != 0)) (Sum.inr ((j:Int),(6:Int))) (cond (x.1 == x.2.1) (Sum.inr ((j:Int),(13:Int))) (cond (s_Zt x.2.2 1000000 != 0) (Sum.inr ((j:Int),s_Zt x.2.2 1000000)) (Sum.inl ((j + 1:Nat):Int))))=_
  unfold v_tierr
  rw [show (x.1 != x.2.1) = !(x.1 == x.2.1) from rfl]
  cases s_Z7 x.1 0 (IntKind.i64.wrap (p0.1 - 1)) <;> cases s_Z7 x.2.1 0 (IntKind.i64.wrap (p0.1 - 1)) <;> cases (x.1 == x.2.1) <;> try rfl
  simp only [v_first,s_Z6,Bool.not_false,Bool.not_true,cond_true,cond_false,show ((0:Int) != 0)=false from rfl]
  cases he:(s_Zt x.2.2 1000000 != 0)
  ·rfl
  ·simp only [cond_true,he]
abbrev t_Z9 (p0:Int×List tQC):Int×Int := v_net p0
abbrev qre_Z9 (_:Int×List tQC):List Prop := []
theorem pp_Z9 (p0:Int×List tQC) (_:∀ p∈qre_Z9 p0,p):∀ p∈pre_Z9 p0,p := by
 simp only [pre_Z9,fM]
 exact ⟨fun _ h => (l_Z9_0 p0 (lenOk_le (n := 12) (by have := of_decide_eq_false h; omega) (by decide))).1,by simp⟩
theorem tt_Z9 (p0:Int×List tQC) (_:∀ p∈qre_Z9 p0,p):s_Z9 p0 = t_Z9 p0 := by
 unfold s_Z9 t_Z9 v_net v_neterr
 simp only [tx_eqw]
 cases h1:s_Z7 p0.1 1 8
 ·rfl
 ·rcases Int.lt_or_le 12 (p0.2.length:Int) with h | h
  ·have h' : ¬ (p0.2.length:Int)≤12 := by omega
   simp [s_Z6,v_first,h,h']
  ·have h' : ¬ (p0.2.length:Int) > 12 := by omega
   rw [(l_Z9_0 p0 (lenOk_le (n := 12) (by omega) (by decide))).2]
   simp [s_Z6,v_first,h,h']

abbrev con_Z9:Con := ⟨P_Z9,R_Z9,fun x => qre_Z9 x,fun x => t_Z9 x⟩
theorem ok_Z9:ConOk Tryz.prog 114 con_Z9 := okG k_Z9 e_Z9 hC_Z9 fun x hx => tf_of (w_Z9_eq x _) (d_Z9 x _ (pp_Z9 x hx) (tt_Z9 x hx))
def C_Z14:Cons := [(114,[],con_Z9)]
theorem hC_Z14:ConsOk Tryz.prog C_Z14 := cC ok_Z9 <| ConsOk.nil
def w_Z14 (p0:tQA) (K:Int→Prop):Prop := (K (v_net p0).2)
theorem w_Z14_eq (p0:tQA) (K:Int→Prop):tfn F_Z14 A_Z14 C_Z14 P_Z14 R_Z14 p0 K = w_Z14 p0 K := by kernel_rfl
def s_Z14 (p0:tQA):Int := (v_net p0).2
abbrev pre_Z14 (_p0:tQA):List Prop := []
theorem d_Z14 (p0:tQA) (K:Int→Prop) (_hp:∀ p∈pre_Z14 p0,p) (h:K (s_Z14 p0)):w_Z14 p0 K := by
 unfold w_Z14
 unfold s_Z14 at h
 exact h
abbrev con_Z14:Con := ⟨P_Z14,R_Z14,fun x => pre_Z14 x,fun x => s_Z14 x⟩
theorem ok_Z14:ConOk Tryz.prog 50 con_Z14 := okG k_Z14 e_Z14 hC_Z14 fun x hx => tf_of (w_Z14_eq x _) (d_Z14 x _ hx rfl)
def C_Z3:Cons := [(100,[],con_Zo),(111,[],con_Z8),(50,[],con_Z14)]
theorem hC_Z3:ConsOk Tryz.prog C_Z3 := cC ok_Zo <| cC ok_Z8 <| cC ok_Z14 <| ConsOk.nil
abbrev q0_Z3 (p0:ByteArray) (y1:(Int×tQA)) := (v_gnp (8:Int) zz2 (v_ct (List.getD (v_ct p0 (59:Int)) y1.1.toNat (⟨#[]⟩ : ByteArray)) (32:Int)))
abbrev q1_Z3 (p0:ByteArray) := (v_gnp (8:Int) zz1 (v_ct (List.getD (v_ct p0 (59:Int)) (Int.toNat zz0) (⟨#[]⟩ : ByteArray)) (32:Int)))
abbrev q2_Z3 (p0:ByteArray) (y1:(Int×tQA)) := (((List.getD (q0_Z3 p0 y1).1 (Int.toNat zz0) zz0),((List.getD (q0_Z3 p0 y1).1 (Int.toNat zz1) zz0),((List.getD (q0_Z3 p0 y1).1 (Int.toNat zz2) zz0),(List.getD (q0_Z3 p0 y1).1 (Int.toNat zz3) zz0)))) :: ([]:List tQB))
def w_Z3 (p0:ByteArray) (K:(tQA×Int)→Prop):Prop := ((((decide ((((ByteArray.size p0):Nat):Int) > 60000))=true) →(K ((zz0,([]:List tQB)),(8:Int)))) ∧(((decide ((((ByteArray.size p0):Nat):Int) > 60000))=false) →((zz0≤59) ∧(((59:Int) < 256) ∧(((ByteArray.size p0)≤1000000) ∧((zz0 < (((v_ct p0 (59:Int)).length:Nat):Int)) ∧((zz0≤32) ∧(((32:Int) < 256) ∧(((ByteArray.size (List.getD (v_ct p0 (59:Int)) (Int.toNat zz0) (⟨#[]⟩ : ByteArray)))≤1000000) ∧(((List.length (v_ct (List.getD (v_ct p0 (59:Int)) (Int.toNat zz0) (⟨#[]⟩ : ByteArray)) (32:Int)))≤1100000) ∧((v_szok (v_ct (List.getD (v_ct p0 (59:Int)) (Int.toNat zz0) (⟨#[]⟩ : ByteArray)) (32:Int))) ∧((zz0≤8) ∧(((8:Int)≤18) ∧((((!(q1_Z3 p0).2)=false) →((!(q1_Z3 p0).2)=(!(q1_Z3 p0).2))) ∧((((!(q1_Z3 p0).2)=false) →((!(q1_Z3 p0).2)=(!(q1_Z3 p0).2))) ∧(((!(q1_Z3 p0).2)=(!(q1_Z3 p0).2)) ∧((((cond (!(q1_Z3 p0).2) true ((((q1_Z3 p0).1.length:Nat):Int) != zz1))=true) →(K ((zz0,([]:List tQB)),(7:Int)))) ∧(((cond (!(q1_Z3 p0).2) true ((((q1_Z3 p0).1.length:Nat):Int) != zz1))=false) →((zz0 < (((q1_Z3 p0).1.length:Nat):Int)) ∧(∃ n0,(loopP (fun (y1:(Int×tQA)) k2 => ((((decide (y1.1 < (((v_ct p0 (59:Int)).length:Nat):Int)))=true) →((zz0≤y1.1) ∧((y1.1 < (((v_ct p0 (59:Int)).length:Nat):Int)) ∧((zz0≤32) ∧(((32:Int) < 256) ∧(((ByteArray.size (List.getD (v_ct p0 (59:Int)) y1.1.toNat (⟨#[]⟩ : ByteArray)))≤1000000) ∧(((List.length (v_ct (List.getD (v_ct p0 (59:Int)) y1.1.toNat (⟨#[]⟩ : ByteArray)) (32:Int)))≤1100000) ∧((v_szok (v_ct (List.getD (v_ct p0 (59:Int)) y1.1.toNat (⟨#[]⟩ : ByteArray)) (32:Int))) ∧((zz0≤8) ∧(((8:Int)≤18) ∧((((!(q0_Z3 p0 y1).2)=false) →((!(q0_Z3 p0 y1).2)=(!(q0_Z3 p0 y1).2))) ∧((((!(q0_Z3 p0 y1).2)=false) →((!(q0_Z3 p0 y1).2)=(!(q0_Z3 p0 y1).2))) ∧(((!(q0_Z3 p0 y1).2)=(!(q0_Z3 p0 y1).2)) ∧((((cond (!(q0_Z3 p0 y1).2) true ((((q0_Z3 p0 y1).1.length:Nat):Int) != 4))=true) →(K ((zz0,([]:List tQB)),(7:Int)))) ∧(((cond (!(q0_Z3 p0 y1).2) true ((((q0_Z3 p0 y1).1.length:Nat):Int) != 4))=false) →((zz0 < (((q0_Z3 p0 y1).1.length:Nat):Int)) ∧((zz1 < (((q0_Z3 p0 y1).1.length:Nat):Int)) ∧((zz2 < (((q0_Z3 p0 y1).1.length:Nat):Int)) ∧((zz3 < (((q0_Z3 p0 y1).1.length:Nat):Int)) ∧((((y1.2.2.length + (List.length (q2_Z3 p0 y1))) * 32)≤140737488355328) ∧(k2 ((wi (y1.1 + zz1)),(y1.2.1,(y1.2.2 ++ (q2_Z3 p0 y1))))))))))))))))))))))))) ∧(((decide (y1.1 < (((v_ct p0 (59:Int)).length:Nat):Int)))=false) →(((((v_net y1.2).2 != zz0)=true) →(K ((zz0,([]:List tQB)),(v_net y1.2).2))) ∧((((v_net y1.2).2 != zz0)=false) →(K (y1.2,zz0))))))) n0 (zz1,((List.getD (q1_Z3 p0).1 (Int.toNat zz0) zz0),([]:List tQB))))))))))))))))))))))))
theorem w_Z3_eq (p0:ByteArray) (K:(tQA×Int)→Prop):tfn F_Z3 A_Z3 C_Z3 P_Z3 R_Z3 p0 K = w_Z3 p0 K := by kernel_rfl
def st_Z3_0 (p0:ByteArray) (y2:(Int×tQA)):(Int×tQA) ⊕ (tQA×Int) := (cond (decide (y2.1 < (((v_ct p0 (59:Int)).length:Nat):Int))) (cond (cond (!(v_gnp (8:Int) (2:Int) (v_ct (List.getD (v_ct p0 (59:Int)) y2.1.toNat (⟨#[]⟩ : ByteArray)) (32:Int))).2) true ((((List.length (v_gnp (8:Int) (2:Int) (v_ct (List.getD (v_ct p0 (59:Int)) y2.1.toNat (⟨#[]⟩ : ByteArray)) (32:Int))).1):Nat):Int) != 4)) (Sum.inr (((0:Int),([]:List tQB)),(7:Int))) (Sum.inl ((IntKind.i64.wrap (y2.1 + 1)),(y2.2.1,(y2.2.2 ++ (((List.getD (v_gnp (8:Int) (2:Int) (v_ct (List.getD (v_ct p0 (59:Int)) y2.1.toNat (⟨#[]⟩ : ByteArray)) (32:Int))).1 (Int.toNat (0:Int)) (0:Int)),((List.getD (v_gnp (8:Int) (2:Int) (v_ct (List.getD (v_ct p0 (59:Int)) y2.1.toNat (⟨#[]⟩ : ByteArray)) (32:Int))).1 (Int.toNat (1:Int)) (0:Int)),((List.getD (v_gnp (8:Int) (2:Int) (v_ct (List.getD (v_ct p0 (59:Int)) y2.1.toNat (⟨#[]⟩ : ByteArray)) (32:Int))).1 (Int.toNat (2:Int)) (0:Int)),(List.getD (v_gnp (8:Int) (2:Int) (v_ct (List.getD (v_ct p0 (59:Int)) y2.1.toNat (⟨#[]⟩ : ByteArray)) (32:Int))).1 (Int.toNat (3:Int)) (0:Int))))) :: ([]:List tQB))))))) (cond ((v_net y2.2).2 != 0) (Sum.inr (((0:Int),([]:List tQB)),(v_net y2.2).2)) (Sum.inr (y2.2,(0:Int)))))
abbrev sp_Z3_0 (p0:ByteArray) (y2:(Int×tQA)):List Prop := [(((decide (y2.1 < (((v_ct p0 (59:Int)).length:Nat):Int)))=true)→((0:Int)≤y2.1)),(((decide (y2.1 < (((v_ct p0 (59:Int)).length:Nat):Int)))=true)→(y2.1 < (((v_ct p0 (59:Int)).length:Nat):Int))),(((decide (y2.1 < (((v_ct p0 (59:Int)).length:Nat):Int)))=true)→((ByteArray.size (List.getD (v_ct p0 (59:Int)) y2.1.toNat (⟨#[]⟩ : ByteArray)))≤1000000)),(((decide (y2.1 < (((v_ct p0 (59:Int)).length:Nat):Int)))=true)→((List.length (v_ct (List.getD (v_ct p0 (59:Int)) y2.1.toNat (⟨#[]⟩ : ByteArray)) (32:Int)))≤1100000)),(((decide (y2.1 < (((v_ct p0 (59:Int)).length:Nat):Int)))=true)→(v_szok (v_ct (List.getD (v_ct p0 (59:Int)) y2.1.toNat (⟨#[]⟩ : ByteArray)) (32:Int)))),(((decide (y2.1 < (((v_ct p0 (59:Int)).length:Nat):Int)))=true)→(((cond (!(v_gnp (8:Int) (2:Int) (v_ct (List.getD (v_ct p0 (59:Int)) y2.1.toNat (⟨#[]⟩ : ByteArray)) (32:Int))).2) true ((((List.length (v_gnp (8:Int) (2:Int) (v_ct (List.getD (v_ct p0 (59:Int)) y2.1.toNat (⟨#[]⟩ : ByteArray)) (32:Int))).1):Nat):Int) != 4))=false)→((0:Int) < (((List.length (v_gnp (8:Int) (2:Int) (v_ct (List.getD (v_ct p0 (59:Int)) y2.1.toNat (⟨#[]⟩ : ByteArray)) (32:Int))).1):Nat):Int)))),(((decide (y2.1 < (((v_ct p0 (59:Int)).length:Nat):Int)))=true)→(((cond (!(v_gnp (8:Int) (2:Int) (v_ct (List.getD (v_ct p0 (59:Int)) y2.1.toNat (⟨#[]⟩ : ByteArray)) (32:Int))).2) true ((((List.length (v_gnp (8:Int) (2:Int) (v_ct (List.getD (v_ct p0 (59:Int)) y2.1.toNat (⟨#[]⟩ : ByteArray)) (32:Int))).1):Nat):Int) != 4))=false)→((1:Int) < (((List.length (v_gnp (8:Int) (2:Int) (v_ct (List.getD (v_ct p0 (59:Int)) y2.1.toNat (⟨#[]⟩ : ByteArray)) (32:Int))).1):Nat):Int)))),(((decide (y2.1 < (((v_ct p0 (59:Int)).length:Nat):Int)))=true)→(((cond (!(v_gnp (8:Int) (2:Int) (v_ct (List.getD (v_ct p0 (59:Int)) y2.1.toNat (⟨#[]⟩ : ByteArray)) (32:Int))).2) true ((((List.length (v_gnp (8:Int) (2:Int) (v_ct (List.getD (v_ct p0 (59:Int)) y2.1.toNat (⟨#[]⟩ : ByteArray)) (32:Int))).1):Nat):Int) != 4))=false)→((2:Int) < (((List.length (v_gnp (8:Int) (2:Int) (v_ct (List.getD (v_ct p0 (59:Int)) y2.1.toNat (⟨#[]⟩ : ByteArray)) (32:Int))).1):Nat):Int)))),(((decide (y2.1 < (((v_ct p0 (59:Int)).length:Nat):Int)))=true)→(((cond (!(v_gnp (8:Int) (2:Int) (v_ct (List.getD (v_ct p0 (59:Int)) y2.1.toNat (⟨#[]⟩ : ByteArray)) (32:Int))).2) true ((((List.length (v_gnp (8:Int) (2:Int) (v_ct (List.getD (v_ct p0 (59:Int)) y2.1.toNat (⟨#[]⟩ : ByteArray)) (32:Int))).1):Nat):Int) != 4))=false)→((3:Int) < (((List.length (v_gnp (8:Int) (2:Int) (v_ct (List.getD (v_ct p0 (59:Int)) y2.1.toNat (⟨#[]⟩ : ByteArray)) (32:Int))).1):Nat):Int)))),(((decide (y2.1 < (((v_ct p0 (59:Int)).length:Nat):Int)))=true)→(((cond (!(v_gnp (8:Int) (2:Int) (v_ct (List.getD (v_ct p0 (59:Int)) y2.1.toNat (⟨#[]⟩ : ByteArray)) (32:Int))).2) true ((((List.length (v_gnp (8:Int) (2:Int) (v_ct (List.getD (v_ct p0 (59:Int)) y2.1.toNat (⟨#[]⟩ : ByteArray)) (32:Int))).1):Nat):Int) != 4))=false)→(((y2.2.2.length + (List.length (((List.getD (v_gnp (8:Int) (2:Int) (v_ct (List.getD (v_ct p0 (59:Int)) y2.1.toNat (⟨#[]⟩ : ByteArray)) (32:Int))).1 (Int.toNat (0:Int)) (0:Int)),((List.getD (v_gnp (8:Int) (2:Int) (v_ct (List.getD (v_ct p0 (59:Int)) y2.1.toNat (⟨#[]⟩ : ByteArray)) (32:Int))).1 (Int.toNat (1:Int)) (0:Int)),((List.getD (v_gnp (8:Int) (2:Int) (v_ct (List.getD (v_ct p0 (59:Int)) y2.1.toNat (⟨#[]⟩ : ByteArray)) (32:Int))).1 (Int.toNat (2:Int)) (0:Int)),(List.getD (v_gnp (8:Int) (2:Int) (v_ct (List.getD (v_ct p0 (59:Int)) y2.1.toNat (⟨#[]⟩ : ByteArray)) (32:Int))).1 (Int.toNat (3:Int)) (0:Int))))) :: ([]:List tQB)))) * 32)≤140737488355328)))]
def s_Z3 (p0:ByteArray):(tQA×Int) := (cond (decide ((((ByteArray.size p0):Nat):Int) > 60000)) (((0:Int),([]:List tQB)),(8:Int)) (cond (cond (!(v_gnp (8:Int) (1:Int) (v_ct (List.getD (v_ct p0 (59:Int)) (Int.toNat (0:Int)) (⟨#[]⟩ : ByteArray)) (32:Int))).2) true ((((List.length (v_gnp (8:Int) (1:Int) (v_ct (List.getD (v_ct p0 (59:Int)) (Int.toNat (0:Int)) (⟨#[]⟩ : ByteArray)) (32:Int))).1):Nat):Int) != 1)) (((0:Int),([]:List tQB)),(7:Int)) (lpv (((0:Int),[]),(0:Int)) (st_Z3_0 p0) ((1:Int),((List.getD (v_gnp (8:Int) (1:Int) (v_ct (List.getD (v_ct p0 (59:Int)) (Int.toNat (0:Int)) (⟨#[]⟩ : ByteArray)) (32:Int))).1 (Int.toNat (0:Int)) (0:Int)),([]:List tQB))))))
abbrev pre_Z3 (p0:ByteArray):List Prop := [(((decide ((((ByteArray.size p0):Nat):Int) > 60000))=false)→((ByteArray.size p0)≤1000000)),(((decide ((((ByteArray.size p0):Nat):Int) > 60000))=false)→((0:Int) < (((v_ct p0 (59:Int)).length:Nat):Int))),(((decide ((((ByteArray.size p0):Nat):Int) > 60000))=false)→((ByteArray.size (List.getD (v_ct p0 (59:Int)) (Int.toNat (0:Int)) (⟨#[]⟩ : ByteArray)))≤1000000)),(((decide ((((ByteArray.size p0):Nat):Int) > 60000))=false)→((List.length (v_ct (List.getD (v_ct p0 (59:Int)) (Int.toNat (0:Int)) (⟨#[]⟩ : ByteArray)) (32:Int)))≤1100000)),(((decide ((((ByteArray.size p0):Nat):Int) > 60000))=false)→(v_szok (v_ct (List.getD (v_ct p0 (59:Int)) (Int.toNat (0:Int)) (⟨#[]⟩ : ByteArray)) (32:Int)))),(((decide ((((ByteArray.size p0):Nat):Int) > 60000))=false)→(((cond (!(v_gnp (8:Int) (1:Int) (v_ct (List.getD (v_ct p0 (59:Int)) (Int.toNat (0:Int)) (⟨#[]⟩ : ByteArray)) (32:Int))).2) true ((((List.length (v_gnp (8:Int) (1:Int) (v_ct (List.getD (v_ct p0 (59:Int)) (Int.toNat (0:Int)) (⟨#[]⟩ : ByteArray)) (32:Int))).1):Nat):Int) != 1))=false)→((0:Int) < (((List.length (v_gnp (8:Int) (1:Int) (v_ct (List.getD (v_ct p0 (59:Int)) (Int.toNat (0:Int)) (⟨#[]⟩ : ByteArray)) (32:Int))).1):Nat):Int)))),(((decide ((((ByteArray.size p0):Nat):Int) > 60000))=false)→(((cond (!(v_gnp (8:Int) (1:Int) (v_ct (List.getD (v_ct p0 (59:Int)) (Int.toNat (0:Int)) (⟨#[]⟩ : ByteArray)) (32:Int))).2) true ((((List.length (v_gnp (8:Int) (1:Int) (v_ct (List.getD (v_ct p0 (59:Int)) (Int.toNat (0:Int)) (⟨#[]⟩ : ByteArray)) (32:Int))).1):Nat):Int) != 1))=false)→(OkL (st_Z3_0 p0) (sp_Z3_0 p0) ((1:Int),((List.getD (v_gnp (8:Int) (1:Int) (v_ct (List.getD (v_ct p0 (59:Int)) (Int.toNat (0:Int)) (⟨#[]⟩ : ByteArray)) (32:Int))).1 (Int.toNat (0:Int)) (0:Int)),([]:List tQB))))))]
theorem d_Z3 (p0:ByteArray) (K:(tQA×Int)→Prop) (hp:∀ p∈pre_Z3 p0,p) (h:K (s_Z3 p0)):w_Z3 p0 K := by
 unfold w_Z3
 unfold s_Z3 at h
 obtain ⟨hp0,hp1,hp2,hp3,hp4,hp5,hp6,_⟩ := conj_of hp
 exact (br' h (fun e0 h => h)
  (fun e0 h => ⟨(od rfl),(od rfl),(hp0 e0),(hp1 e0),(od rfl),(od rfl),(hp2 e0),(hp3 e0),(hp4 e0),(od rfl),(od rfl),rf,rf,rfl,(br' h (fun e1 h => h)
  (fun e1 h => ⟨(hp5 e0 e1),(loop_gen (hp6 e0 e1) h (fun y2 k2 hp h => by
 unfold st_Z3_0 at h; obtain ⟨hp0,hp1,hp2,hp3,hp4,hp5,hp6,hp7,hp8,hp9,_⟩ := conj_of hp
 exact (br' h (fun e3 h => ⟨(hp0 e3),(hp1 e3),(od rfl),(od rfl),(hp2 e3),(hp3 e3),(hp4 e3),(od rfl),(od rfl),rf,rf,rfl,(br' h (fun e4 h => h)
  (fun e4 h => ⟨(hp5 e3 e4),(hp6 e3 e4),(hp7 e3 e4),(hp8 e3 e4),(hp9 e3 e4),h⟩))⟩)
  (fun e3 h => (br' h (fun e5 h => h)
  (fun e5 h => h))))))⟩))⟩))
theorem tx_c2 {a b:Bool} (h:cond (!a) true (!b)=false):a = true∧b = true := by cases a <;> cases b <;> first | exact ⟨rfl,rfl⟩ | cases h
theorem l_Z3_0 (p0:ByteArray) (a:Int) (hs:p0.size≤60000):OkL (st_Z3_0 p0) (sp_Z3_0 p0) (1,(a,[]))∧lpv ((0,[]),0) (st_Z3_0 p0) (1,(a,[]))=v_go v_pnf (v_pne (fun n => (v_net n).2)) 1 (a,[]) ((v_ct p0 59).drop 1) := by
 have hc := v_ct_len p0 59
 have hne:v_ct p0 59 ≠ [] := fun h => by
  unfold v_ct at h
  exact v_spb_ne _ _ (List.map_eq_nil_iff.1 h)
 have hpos:1≤(v_ct p0 59).length := List.length_pos_iff.2 hne
 have hr := for_is (dd := ((0,[]),0)) (st := st_Z3_0 p0) (sp := sp_Z3_0 p0) (fun i (t:Int×List T4) => (i,t)) 1 (v_ct p0 59).length (fun j t => t.2.length≤j) (fun j t => v_go v_pnf (v_pne (fun n => (v_net n).2)) j t ((v_ct p0 59).drop j)) hpos (by omega) (fun t ht => ?_) (fun j t h1 hj ht => ?_) (a,[]) (Nat.zero_le _)
 ·exact hr
 ·have hz:((v_ct p0 59).getD (v_ct p0 59).length (⟨#[]⟩ : ByteArray)).size≤60000 := by
   rw [List.getD_eq_getElem?_getD,List.getElem?_eq_none (Nat.le_refl _)]; exact Nat.zero_le _
  refine ⟨?_,?_⟩
  ·unfold sp_Z3_0
   simp only [fM,Int.toNat_natCast]
   have hn:decide ((((v_ct p0 59).length:Nat):Int) < ((v_ct p0 59).length:Nat))=true→False := fun h => Int.lt_irrefl _ (of_decide_eq_true h)
   and_intros
   all_goals first | (intro h; exact (hn h).elim) | (simp; done)
  ·unfold st_Z3_0
   rw [decide_eq_false (Int.lt_irrefl _),cond_false,List.drop_length]
   show _ = Sum.inr (v_pne _ t)
   unfold v_pne
   dsimp only
   cases ((v_net t).2 != 0) <;> rfl
 ·have hz := Nat.le_trans (v_ct_mem (getD_mem' (⟨#[]⟩ : ByteArray) hj)) hs
  refine ⟨?_,?_⟩
  ·unfold sp_Z3_0
   simp only [fM,Int.toNat_natCast]
   obtain ⟨w,hw⟩ : ∃ w,(v_ct p0 59).getD j (⟨#[]⟩ : ByteArray)=w := ⟨_,rfl⟩
   rw [hw] at hz
   simp only [hw]
   have hg := v_gnp_len 8 2 (v_ct w 32)
   have hw2 := v_ct_len w 32
   have hso:v_szok (v_ct w 32) := fun z hz' => by have := v_ct_mem hz'; omega
   generalize v_gnp 8 2 (v_ct w 32)=G at hg ⊢
   have k4:cond (!G.2) true ((G.1.length:Int) != 4)=false→G.1.length = 4 := fun h => by
    have:(G.1.length:Int)=4 := by simpa using (tx_c2 h).2
    omega
   and_intros
   all_goals first | (intros; omega) | (intro h; exact of_decide_eq_true h) | (intro _; exact hso) | (intro _; decide) | (intro _ h; have := k4 h; omega) | (intros; simp only [List.length_cons,List.length_nil]; omega) | (simp; done)
  ·unfold st_Z3_0
   rw [decide_eq_true (show ((j:Nat):Int) < ((v_ct p0 59).length:Nat) by omega),cond_true,drop_getD (⟨#[]⟩ : ByteArray) hj,v_go_cons]
   dsimp only
   rw [Int.toNat_natCast]
   obtain ⟨w,hw⟩ : ∃ w,(v_ct p0 59).getD j (⟨#[]⟩ : ByteArray)=w := ⟨_,rfl⟩
   simp only [hw]
   cases hf:v_pnf (j:Int) t w with
   | inl t' =>
    left
    refine ⟨t',?_,by have := v_pnf_in hf; omega,rfl⟩
    rw [v_pnf_1 (by omega)] at hf
    rw [wrap_nat (show (j:Int)≤9223372036854775806 by omega)]
    generalize v_gnp 8 2 (v_ct w 32)=G at hf ⊢
    obtain ⟨g,b⟩ := G
    dsimp only at hf ⊢
    cases b
    ·cases hf
    ·cases h4:((g.length:Int) == 4)
     ·rw [h4] at hf; cases hf
     ·rw [h4] at hf
      simp only [cond_true,Sum.inl.injEq] at hf
      rw [← hf,show ((g.length:Int) != 4)=false by unfold bne; rw [h4]; rfl]
      rfl
   | inr v =>
    right
    rw [v_pnf_1 (by omega)] at hf
    generalize v_gnp 8 2 (v_ct w 32)=G at hf ⊢
    obtain ⟨g,b⟩ := G
    dsimp only at hf ⊢
    cases b
    ·simp only [cond_false,Sum.inr.injEq] at hf
     rw [← hf]; rfl
    ·cases h4:((g.length:Int) == 4)
     ·rw [h4] at hf
      simp only [cond_true,cond_false,Sum.inr.injEq] at hf
      rw [← hf,show ((g.length:Int) != 4)=true by unfold bne; rw [h4]; rfl]
      rfl
     ·rw [h4] at hf; cases hf
abbrev t_Z3 (p0:ByteArray):(Int×List T4)×Int := v_pnet (fun n => (v_net n).2) p0
abbrev qre_Z3 (_p0:ByteArray):List Prop := []
theorem x_Z3 (p0:ByteArray):∃ r rest,v_ct p0 59 = r :: rest := by
 cases h:v_ct p0 59 with
 | nil =>
  unfold v_ct at h
  exact absurd (List.map_eq_nil_iff.1 h) (v_spb_ne _ _)
 | cons r rest => exact ⟨r,rest,rfl⟩
theorem pp_Z3 (p0:ByteArray) (_hq:∀ p∈qre_Z3 p0,p):∀ p∈pre_Z3 p0,p := by
 have hs:decide ((p0.size:Int) > 60000)=false→p0.size≤60000 := fun h => by have := of_decide_eq_false h; omega
 obtain ⟨r,rest,hr⟩ := x_Z3 p0
 have hl := fun a h => (l_Z3_0 p0 a (hs h)).1
 have hrs:r.size≤p0.size := v_ct_mem (b := 59) (by rw [hr]; simp)
 have hrl := v_ct_len r 32
 simp only [pre_Z3,fM]
 have e0:(v_ct p0 59).getD (Int.toNat 0) (⟨#[]⟩ : ByteArray)=r := by rw [hr]; rfl
 simp only [e0]
 have hso:p0.size≤60000→v_szok (v_ct r 32) := fun h z hz' => by have := v_ct_mem hz'; omega
 have hlen:(v_ct p0 59).length = rest.length + 1 := by rw [hr]; rfl
 have k1:cond (!(v_gnp 8 1 (v_ct r 32)).2) true (((v_gnp 8 1 (v_ct r 32)).1.length:Int) != 1)=false→(v_gnp 8 1 (v_ct r 32)).1.length = 1 := fun h => by
  have:((v_gnp 8 1 (v_ct r 32)).1.length:Int)=1 := by simpa using (tx_c2 h).2
  omega
 and_intros
 all_goals first | (intro h; have := hs h; omega) | (intro h; exact hso (hs h)) | (intro _ h; have := k1 h; omega) | (intro h _; exact hl _ h) | (intro _; decide) | (simp; done)
theorem tt_Z3 (p0:ByteArray) (_hq:∀ p∈qre_Z3 p0,p):s_Z3 p0 = t_Z3 p0 := by
 unfold s_Z3 t_Z3 v_pnet
 cases h:decide ((p0.size:Int) > 60000) with
 | true => rfl
 | false =>
  have hl := fun a => (l_Z3_0 p0 a (by have := of_decide_eq_false h; omega)).2
  obtain ⟨r,rest,hr⟩ := x_Z3 p0
  have e0:(v_ct p0 59).getD (Int.toNat 0) (⟨#[]⟩ : ByteArray)=r := by rw [hr]; rfl
  simp only [cond_false,e0,hl]
  rw [hr]
  exact v_pnet_ref

abbrev con_Z3:Con := ⟨P_Z3,R_Z3,fun x => qre_Z3 x,fun x => t_Z3 x⟩
theorem ok_Z3:ConOk Tryz.prog 45 con_Z3 := okG k_Z3 e_Z3 hC_Z3 fun x hx => tf_of (w_Z3_eq x _) (d_Z3 x _ (pp_Z3 x hx) (tt_Z3 x hx))
def C_Zb:Cons := [(135,[],con_Zk)]
theorem hC_Zb:ConsOk Tryz.prog C_Zb := cC ok_Zk <| ConsOk.nil
def w_Zb (p0:Int) (K:ByteArray→Prop):Prop := ((((p0 == 0)=true) →(K (⟨#[48]⟩ : ByteArray))) ∧(((p0 == 0)=false) →((((decide (p0 < 0))=true) →(∃ n0,(loopP (fun (y1:(Int×ByteArray)) k2 => ((((y1.1 != 0)=true) →((v_bts ((IntKind.wrap .u8 (IntKind.i64.wrap ((48:Int) + (s_Zk (Int.tmod y1.1 (10:Int)))))) :: ([]:List Int))) ∧((((((ByteArray.size (v_sof ((IntKind.wrap .u8 (IntKind.i64.wrap ((48:Int) + (s_Zk (Int.tmod y1.1 (10:Int)))))) :: ([]:List Int)))):Nat):Int) + (((ByteArray.size y1.2):Nat):Int))≤9223372036854775807) ∧(k2 ((IntKind.i64.wrap (Int.tdiv y1.1 (10:Int))),(v_scat (v_sof ((IntKind.wrap .u8 (IntKind.i64.wrap ((48:Int) + (s_Zk (Int.tmod y1.1 (10:Int)))))) :: ([]:List Int))) y1.2)))))) ∧(((y1.1 != 0)=false) →((((((ByteArray.size (⟨#[45]⟩ : ByteArray)):Nat):Int) + (((ByteArray.size y1.2):Nat):Int))≤9223372036854775807) ∧(K (v_scat (⟨#[45]⟩ : ByteArray) y1.2)))))) n0 (p0,(⟨#[]⟩ : ByteArray))))) ∧(((decide (p0 < 0))=false) →(∃ n3,(loopP (fun (y4:(Int×ByteArray)) k5 => ((((y4.1 != 0)=true) →((v_bts ((IntKind.wrap .u8 (IntKind.i64.wrap ((48:Int) + (s_Zk (Int.tmod y4.1 (10:Int)))))) :: ([]:List Int))) ∧((((((ByteArray.size (v_sof ((IntKind.wrap .u8 (IntKind.i64.wrap ((48:Int) + (s_Zk (Int.tmod y4.1 (10:Int)))))) :: ([]:List Int)))):Nat):Int) + (((ByteArray.size y4.2):Nat):Int))≤9223372036854775807) ∧(k5 ((IntKind.i64.wrap (Int.tdiv y4.1 (10:Int))),(v_scat (v_sof ((IntKind.wrap .u8 (IntKind.i64.wrap ((48:Int) + (s_Zk (Int.tmod y4.1 (10:Int)))))) :: ([]:List Int))) y4.2)))))) ∧(((y4.1 != 0)=false) →((((((ByteArray.size (⟨#[]⟩ : ByteArray)):Nat):Int) + (((ByteArray.size y4.2):Nat):Int))≤9223372036854775807) ∧(K (v_scat (⟨#[]⟩ : ByteArray) y4.2)))))) n3 (p0,(⟨#[]⟩ : ByteArray))))))))
theorem w_Zb_eq (p0:Int) (K:ByteArray→Prop):tfn F_Zb A_Zb C_Zb P_Zb R_Zb p0 K = w_Zb p0 K := by kernel_rfl
def st_Zb_0 (_p0:Int) (y2:(Int×ByteArray)):(Int×ByteArray) ⊕ ByteArray := (cond (y2.1 != 0) (Sum.inl ((IntKind.i64.wrap (Int.tdiv y2.1 (10:Int))),(v_scat (v_sof ((IntKind.wrap .u8 (IntKind.i64.wrap ((48:Int) + (s_Zk (Int.tmod y2.1 (10:Int)))))) :: ([]:List Int))) y2.2))) (Sum.inr (v_scat (⟨#[45]⟩ : ByteArray) y2.2)))
abbrev sp_Zb_0 (_p0:Int) (y2:(Int×ByteArray)):List Prop := [(((y2.1 != 0)=true)→(v_bts ((IntKind.wrap .u8 (IntKind.i64.wrap ((48:Int) + (s_Zk (Int.tmod y2.1 (10:Int)))))) :: ([]:List Int)))),(((y2.1 != 0)=true)→(((((ByteArray.size (v_sof ((IntKind.wrap .u8 (IntKind.i64.wrap ((48:Int) + (s_Zk (Int.tmod y2.1 (10:Int)))))) :: ([]:List Int)))):Nat):Int) + (((ByteArray.size y2.2):Nat):Int))≤9223372036854775807)),(((y2.1 != 0)=false)→(((((ByteArray.size (⟨#[45]⟩ : ByteArray)):Nat):Int) + (((ByteArray.size y2.2):Nat):Int))≤9223372036854775807))]
def st_Zb_1 (_p0:Int) (y4:(Int×ByteArray)):(Int×ByteArray) ⊕ ByteArray := (cond (y4.1 != 0) (Sum.inl ((IntKind.i64.wrap (Int.tdiv y4.1 (10:Int))),(v_scat (v_sof ((IntKind.wrap .u8 (IntKind.i64.wrap ((48:Int) + (s_Zk (Int.tmod y4.1 (10:Int)))))) :: ([]:List Int))) y4.2))) (Sum.inr (v_scat (⟨#[]⟩ : ByteArray) y4.2)))
abbrev sp_Zb_1 (_p0:Int) (y4:(Int×ByteArray)):List Prop := [(((y4.1 != 0)=true)→(v_bts ((IntKind.wrap .u8 (IntKind.i64.wrap ((48:Int) + (s_Zk (Int.tmod y4.1 (10:Int)))))) :: ([]:List Int)))),(((y4.1 != 0)=true)→(((((ByteArray.size (v_sof ((IntKind.wrap .u8 (IntKind.i64.wrap ((48:Int) + (s_Zk (Int.tmod y4.1 (10:Int)))))) :: ([]:List Int)))):Nat):Int) + (((ByteArray.size y4.2):Nat):Int))≤9223372036854775807)),(((y4.1 != 0)=false)→(((((ByteArray.size (⟨#[]⟩ : ByteArray)):Nat):Int) + (((ByteArray.size y4.2):Nat):Int))≤9223372036854775807))]
def s_Zb (p0:Int):ByteArray := (cond (p0 == 0) (⟨#[48]⟩ : ByteArray) (cond (decide (p0 < 0)) (lpv (⟨#[]⟩ : ByteArray) (st_Zb_0 p0) (p0,(⟨#[]⟩ : ByteArray))) (lpv (⟨#[]⟩ : ByteArray) (st_Zb_1 p0) (p0,(⟨#[]⟩ : ByteArray)))))
abbrev pre_Zb (p0:Int):List Prop := [(((p0 == 0)=false)→(((decide (p0 < 0))=true)→(OkL (st_Zb_0 p0) (sp_Zb_0 p0) (p0,(⟨#[]⟩ : ByteArray))))),(((p0 == 0)=false)→(((decide (p0 < 0))=false)→(OkL (st_Zb_1 p0) (sp_Zb_1 p0) (p0,(⟨#[]⟩ : ByteArray)))))]
theorem d_Zb (p0:Int) (K:ByteArray→Prop) (hp:∀ p∈pre_Zb p0,p) (h:K (s_Zb p0)):w_Zb p0 K := by
 unfold w_Zb
 unfold s_Zb at h
 obtain ⟨hp0,hp1,_⟩ := conj_of hp
 exact (br' h (fun e0 h => h)
  (fun e0 h => (br' h (fun e1 h => (loop_gen (hp0 e0 e1) h (fun y2 k2 hp h => by
 unfold st_Zb_0 at h; obtain ⟨hp0,hp1,hp2,_⟩ := conj_of hp
 exact (br' h (fun e3 h => ⟨(hp0 e3),(hp1 e3),h⟩)
  (fun e3 h => ⟨(hp2 e3),h⟩)))))
  (fun e1 h => (loop_gen (hp1 e0 e1) h (fun y4 k4 hp h => by
 unfold st_Zb_1 at h; obtain ⟨hp0,hp1,hp2,_⟩ := conj_of hp
 exact (br' h (fun e5 h => ⟨(hp0 e5),(hp1 e5),h⟩)
  (fun e5 h => ⟨(hp2 e5),h⟩))))))))
theorem l_Zb_0 (p0 n:Int) (h1 : -9223372036854775808≤n) (h2:n≤9223372036854775807):OkL (st_Zb_0 p0) (sp_Zb_0 p0) (n,(⟨#[]⟩ : ByteArray))∧lpv (⟨#[]⟩ : ByteArray) (st_Zb_0 p0) (n,(⟨#[]⟩ : ByteArray))=v_scat ⟨#[45]⟩ (v_ddb n) := by
 refine dec_is (fun y => ?_) (fun y hy => ?_) (Nat.le_refl _) n h1 h2
 ·unfold st_Zb_0 s_Zk
  rw [v_dgb_is]
 ·obtain ⟨a,b,c⟩ := hy
  unfold sp_Zb_0 s_Zk
  rw [v_dgb_is]
  simp only [fM]
  exact ⟨fun h => a (by simpa using h),fun h => b (by simpa using h),fun h => c (by simpa using h),by simp⟩
theorem l_Zb_1 (p0 n:Int) (h1 : -9223372036854775808≤n) (h2:n≤9223372036854775807):OkL (st_Zb_1 p0) (sp_Zb_1 p0) (n,(⟨#[]⟩ : ByteArray))∧lpv (⟨#[]⟩ : ByteArray) (st_Zb_1 p0) (n,(⟨#[]⟩ : ByteArray))=v_scat ⟨#[]⟩ (v_ddb n) := by
 refine dec_is (fun y => ?_) (fun y hy => ?_) (Nat.zero_le _) n h1 h2
 ·unfold st_Zb_1 s_Zk
  rw [v_dgb_is]
 ·obtain ⟨a,b,c⟩ := hy
  unfold sp_Zb_1 s_Zk
  rw [v_dgb_is]
  simp only [fM]
  exact ⟨fun h => a (by simpa using h),fun h => b (by simpa using h),fun h => c (by simpa using h),by simp⟩
abbrev t_Zb (p0:Int):ByteArray := v_itoa p0
abbrev qre_Zb (p0:Int):List Prop := [-9223372036854775808≤p0,p0≤9223372036854775807]
theorem pp_Zb (p0:Int) (hq:∀ p∈qre_Zb p0,p):∀ p∈pre_Zb p0,p := by
 obtain ⟨h1,h2,_⟩ := conj_of hq
 simp only [pre_Zb,fM]
 exact ⟨fun _ _ => (l_Zb_0 p0 p0 h1 h2).1,fun _ _ => (l_Zb_1 p0 p0 h1 h2).1,by simp⟩
theorem tt_Zb (p0:Int) (hq:∀ p∈qre_Zb p0,p):s_Zb p0 = t_Zb p0 := by
 obtain ⟨h1,h2,_⟩ := conj_of hq
 unfold s_Zb t_Zb
 rw [(l_Zb_0 p0 p0 h1 h2).2,(l_Zb_1 p0 p0 h1 h2).2,v_itoa_dd]

abbrev con_Zb:Con := ⟨P_Zb,R_Zb,fun x => qre_Zb x,fun x => t_Zb x⟩
theorem ok_Zb:ConOk Tryz.prog 103 con_Zb := okG k_Zb e_Zb hC_Zb fun x hx => tf_of (w_Zb_eq x _) (d_Zb x _ (pp_Zb x hx) (tt_Zb x hx))
def C_Zp:Cons := [(103,[],con_Zb)]
theorem hC_Zp:ConsOk Tryz.prog C_Zp := cC ok_Zb <| ConsOk.nil
def w_Zp (p0:gF) (K:ByteArray→Prop):Prop := (∃ n0,(loopP (fun (y1:(Int×ByteArray)) k2 => ((((decide (y1.1 < (p0.length:Int)))=true) →((((decide (y1.1 > 0))=true) →((((((ByteArray.size y1.2):Nat):Int) + (((ByteArray.size (⟨#[32]⟩ : ByteArray)):Nat):Int))≤9223372036854775807) ∧((zz0≤y1.1) ∧((y1.1 < (p0.length:Int)) ∧(((-9223372036854775808:Int)≤(p0.getD y1.1.toNat zz0)) ∧(((p0.getD y1.1.toNat zz0)≤9223372036854775807) ∧((((((ByteArray.size (v_scat y1.2 (⟨#[32]⟩ : ByteArray))):Nat):Int) + (((ByteArray.size (v_itoa (p0.getD y1.1.toNat zz0))):Nat):Int))≤9223372036854775807) ∧(k2 ((IntKind.i64.wrap (y1.1 + 1)),(v_scat (v_scat y1.2 (⟨#[32]⟩ : ByteArray)) (v_itoa (p0.getD y1.1.toNat zz0)))))))))))) ∧(((decide (y1.1 > 0))=false) →((zz0≤y1.1) ∧((y1.1 < (p0.length:Int)) ∧(((-9223372036854775808:Int)≤(p0.getD y1.1.toNat zz0)) ∧(((p0.getD y1.1.toNat zz0)≤9223372036854775807) ∧((((((ByteArray.size y1.2):Nat):Int) + (((ByteArray.size (v_itoa (p0.getD y1.1.toNat zz0))):Nat):Int))≤9223372036854775807) ∧(k2 ((IntKind.i64.wrap (y1.1 + 1)),(v_scat y1.2 (v_itoa (p0.getD y1.1.toNat zz0))))))))))))) ∧(((decide (y1.1 < (p0.length:Int)))=false) →(K y1.2)))) n0 (zz0,(⟨#[]⟩ : ByteArray))))
theorem w_Zp_eq (p0:gF) (K:ByteArray→Prop):tfn F_Zp A_Zp C_Zp P_Zp R_Zp p0 K = w_Zp p0 K := by kernel_rfl
def st_Zp_0 (p0:gF) (y0:(Int×ByteArray)):(Int×ByteArray) ⊕ ByteArray := (cond (decide (y0.1 < (p0.length:Int))) (cond (decide (y0.1 > 0)) (Sum.inl ((IntKind.i64.wrap (y0.1 + 1)),(v_scat (v_scat y0.2 (⟨#[32]⟩ : ByteArray)) (v_itoa (p0.getD y0.1.toNat (0:Int)))))) (Sum.inl ((IntKind.i64.wrap (y0.1 + 1)),(v_scat y0.2 (v_itoa (p0.getD y0.1.toNat (0:Int))))))) (Sum.inr y0.2))
abbrev sp_Zp_0 (p0:gF) (y0:(Int×ByteArray)):List Prop := [(((decide (y0.1 < (p0.length:Int)))=true)→(((decide (y0.1 > 0))=true)→(((((ByteArray.size y0.2):Nat):Int) + (((ByteArray.size (⟨#[32]⟩ : ByteArray)):Nat):Int))≤9223372036854775807))),(((decide (y0.1 < (p0.length:Int)))=true)→(((decide (y0.1 > 0))=true)→((0:Int)≤y0.1))),(((decide (y0.1 < (p0.length:Int)))=true)→(((decide (y0.1 > 0))=true)→(y0.1 < (p0.length:Int)))),(((decide (y0.1 < (p0.length:Int)))=true)→(((decide (y0.1 > 0))=true)→((-9223372036854775808:Int)≤(p0.getD y0.1.toNat (0:Int))))),(((decide (y0.1 < (p0.length:Int)))=true)→(((decide (y0.1 > 0))=true)→((p0.getD y0.1.toNat (0:Int))≤9223372036854775807))),(((decide (y0.1 < (p0.length:Int)))=true)→(((decide (y0.1 > 0))=true)→(((((ByteArray.size (v_scat y0.2 (⟨#[32]⟩ : ByteArray))):Nat):Int) + (((ByteArray.size (v_itoa (p0.getD y0.1.toNat (0:Int)))):Nat):Int))≤9223372036854775807))),(((decide (y0.1 < (p0.length:Int)))=true)→(((decide (y0.1 > 0))=false)→((0:Int)≤y0.1))),(((decide (y0.1 < (p0.length:Int)))=true)→(((decide (y0.1 > 0))=false)→(y0.1 < (p0.length:Int)))),(((decide (y0.1 < (p0.length:Int)))=true)→(((decide (y0.1 > 0))=false)→((-9223372036854775808:Int)≤(p0.getD y0.1.toNat (0:Int))))),(((decide (y0.1 < (p0.length:Int)))=true)→(((decide (y0.1 > 0))=false)→((p0.getD y0.1.toNat (0:Int))≤9223372036854775807))),(((decide (y0.1 < (p0.length:Int)))=true)→(((decide (y0.1 > 0))=false)→(((((ByteArray.size y0.2):Nat):Int) + (((ByteArray.size (v_itoa (p0.getD y0.1.toNat (0:Int)))):Nat):Int))≤9223372036854775807)))]
def s_Zp (p0:gF):ByteArray := (lpv (⟨#[]⟩ : ByteArray) (st_Zp_0 p0) ((0:Int),(⟨#[]⟩ : ByteArray)))
abbrev pre_Zp (p0:gF):List Prop := [(OkL (st_Zp_0 p0) (sp_Zp_0 p0) ((0:Int),(⟨#[]⟩ : ByteArray)))]
theorem d_Zp (p0:gF) (K:ByteArray→Prop) (hp:∀ p∈pre_Zp p0,p) (h:K (s_Zp p0)):w_Zp p0 K := by
 unfold w_Zp
 unfold s_Zp at h
 obtain ⟨hp0,_⟩ := conj_of hp
 exact (loop_gen (hp0) h (fun y0 k0 hp h => by
 unfold st_Zp_0 at h; obtain ⟨hp0,hp1,hp2,hp3,hp4,hp5,hp6,hp7,hp8,hp9,hp10,_⟩ := conj_of hp
 exact (br' h (fun e1 h => (br' h (fun e2 h => ⟨(hp0 e1 e2),(hp1 e1 e2),(hp2 e1 e2),(hp3 e1 e2),(hp4 e1 e2),(hp5 e1 e2),h⟩)
  (fun e2 h => ⟨(hp6 e1 e2),(hp7 e1 e2),(hp8 e1 e2),(hp9 e1 e2),(hp10 e1 e2),h⟩)))
  (fun e1 h => h))))
theorem l_Zp_0 (p0:gF) (hl:p0.length≤1000) (h:v_inok p0):OkL (st_Zp_0 p0) (sp_Zp_0 p0) (0,⟨#[]⟩)∧lpv ⟨#[]⟩ (st_Zp_0 p0) (0,⟨#[]⟩)=v_fmt v_itoa p0 := by
 refine fmt_is 0 v_itoa hl (fun x hx => Nat.le_trans (v_itoa_len' (h x hx)) (by decide)) (fun y => by unfold st_Zp_0; rfl) (fun j o hj ho hm => ?_)
 have b1 := fun (hj:j < p0.length) => h _ (hm hj)
 unfold sp_Zp_0
 have c1:(⟨#[32]⟩ : ByteArray).size = 1 := rfl
 simp only [fM,decide_eq_true_eq,decide_eq_false_iff_not,v_scat_size,Int.toNat_natCast,List.length_cons,List.length_nil,c1]
 by_cases hjl:j < p0.length
 ·have b := b1 hjl
  generalize p0.getD j 0 = x at b ⊢
  have z1 := v_itoa_len' b
  have q1 := b.1
  have q2 := b.2
  and_intros
  all_goals first | (intros; omega) | (simp; done)
 ·and_intros
  all_goals first | (intros; omega) | (simp; done)
abbrev t_Zp (p0:gF):ByteArray := v_fmt v_itoa p0
abbrev qre_Zp (p0:gF):List Prop := [p0.length≤1000,v_inok p0]
theorem pp_Zp (p0:gF) (hq:∀ p∈qre_Zp p0,p):∀ p∈pre_Zp p0,p := by
 obtain ⟨h1,h2,_⟩ := conj_of hq
 simp only [pre_Zp,fM]
 exact ⟨(l_Zp_0 p0 h1 h2).1,by simp⟩
theorem tt_Zp (p0:gF) (hq:∀ p∈qre_Zp p0,p):s_Zp p0 = t_Zp p0 := by
 obtain ⟨h1,h2,_⟩ := conj_of hq
 exact (l_Zp_0 p0 h1 h2).2

abbrev con_Zp:Con := ⟨P_Zp,R_Zp,fun x => qre_Zp x,fun x => t_Zp x⟩
theorem ok_Zp:ConOk Tryz.prog 112 con_Zp := okG k_Zp e_Zp hC_Zp fun x hx => tf_of (w_Zp_eq x _) (d_Zp x _ (pp_Zp x hx) (tt_Zp x hx))
def C_Z1a:Cons := [(112,[],con_Zp)]
theorem hC_Z1a:ConsOk Tryz.prog C_Z1a := cC ok_Zp <| ConsOk.nil
def w_Z1a (p0:gF) (K:ByteArray→Prop):Prop := ((p0.length≤1000) ∧((v_inok p0) ∧(K (v_fmt (v_itoa) p0))))
theorem w_Z1a_eq (p0:gF) (K:ByteArray→Prop):tfn F_Z1a A_Z1a C_Z1a P_Z1a R_Z1a p0 K = w_Z1a p0 K := by kernel_rfl
def s_Z1a (p0:gF):ByteArray := (v_fmt (v_itoa) p0)
abbrev pre_Z1a (p0:gF):List Prop := [(p0.length≤1000),(v_inok p0)]
theorem d_Z1a (p0:gF) (K:ByteArray→Prop) (hp:∀ p∈pre_Z1a p0,p) (h:K (s_Z1a p0)):w_Z1a p0 K := by
 unfold w_Z1a
 unfold s_Z1a at h
 obtain ⟨hp0,hp1,_⟩ := conj_of hp
 exact ⟨(hp0),(hp1),h⟩
abbrev con_Z1a:Con := ⟨P_Z1a,R_Z1a,fun x => pre_Z1a x,fun x => s_Z1a x⟩
theorem ok_Z1a:ConOk Tryz.prog 46 con_Z1a := okG k_Z1a e_Z1a hC_Z1a fun x hx => tf_of (w_Z1a_eq x _) (d_Z1a x _ hx rfl)
def C_Zg:Cons := [(103,[],con_Zb),(112,[],con_Zp)]
theorem hC_Zg:ConsOk Tryz.prog C_Zg := cC ok_Zb <| cC ok_Zp <| ConsOk.nil
abbrev q0_Zg (p0:tQA) (y1:(Int×ByteArray)) := ((p0.2.getD y1.1.toNat (zz0,(zz0,(zz0,zz0)))).1 :: ((p0.2.getD y1.1.toNat (zz0,(zz0,(zz0,zz0)))).2.1 :: ((p0.2.getD y1.1.toNat (zz0,(zz0,(zz0,zz0)))).2.2.1 :: ((p0.2.getD y1.1.toNat (zz0,(zz0,(zz0,zz0)))).2.2.2 :: ([]:List Int)))))
def w_Zg (p0:tQA) (K:ByteArray→Prop):Prop := (((-9223372036854775808:Int)≤p0.1) ∧((p0.1≤9223372036854775807) ∧(∃ n0,(loopP (fun (y1:(Int×ByteArray)) k2 => ((((decide (y1.1 < (p0.2.length:Int)))=true) →((zz0≤y1.1) ∧((y1.1 < (p0.2.length:Int)) ∧((((((ByteArray.size y1.2):Nat):Int) + (((ByteArray.size (⟨#[59]⟩ : ByteArray)):Nat):Int))≤9223372036854775807) ∧(((List.length (q0_Zg p0 y1))≤1000) ∧((v_inok (q0_Zg p0 y1)) ∧((((((ByteArray.size (v_scat y1.2 (⟨#[59]⟩ : ByteArray))):Nat):Int) + (((ByteArray.size (v_fmt (v_itoa) (q0_Zg p0 y1))):Nat):Int))≤9223372036854775807) ∧(k2 ((wi (y1.1 + zz1)),(v_scat (v_scat y1.2 (⟨#[59]⟩ : ByteArray)) (v_fmt (v_itoa) (q0_Zg p0 y1)))))))))))) ∧(((decide (y1.1 < (p0.2.length:Int)))=false) →(K y1.2)))) n0 (zz0,(v_itoa p0.1))))))
theorem w_Zg_eq (p0:tQA) (K:ByteArray→Prop):tfn F_Zg A_Zg C_Zg P_Zg R_Zg p0 K = w_Zg p0 K := by kernel_rfl
def st_Zg_0 (p0:tQA) (y0:(Int×ByteArray)):(Int×ByteArray) ⊕ ByteArray := (cond (decide (y0.1 < (p0.2.length:Int))) (Sum.inl ((IntKind.i64.wrap (y0.1 + 1)),(v_scat (v_scat y0.2 (⟨#[59]⟩ : ByteArray)) (v_fmt (v_itoa) ((p0.2.getD y0.1.toNat ((0:Int),((0:Int),(0,0)))).1 :: ((p0.2.getD y0.1.toNat ((0:Int),((0:Int),(0,0)))).2.1 :: ((p0.2.getD y0.1.toNat ((0:Int),((0:Int),(0,0)))).2.2.1 :: ((p0.2.getD y0.1.toNat ((0:Int),((0:Int),(0,0)))).2.2.2 :: ([]:List Int))))))))) (Sum.inr y0.2))
abbrev sp_Zg_0 (p0:tQA) (y0:(Int×ByteArray)):List Prop := [(((decide (y0.1 < (p0.2.length:Int)))=true)→((0:Int)≤y0.1)),(((decide (y0.1 < (p0.2.length:Int)))=true)→(y0.1 < (p0.2.length:Int))),(((decide (y0.1 < (p0.2.length:Int)))=true)→(((((ByteArray.size y0.2):Nat):Int) + (((ByteArray.size (⟨#[59]⟩ : ByteArray)):Nat):Int))≤9223372036854775807)),(((decide (y0.1 < (p0.2.length:Int)))=true)→((List.length ((p0.2.getD y0.1.toNat ((0:Int),((0:Int),(0,0)))).1 :: ((p0.2.getD y0.1.toNat ((0:Int),((0:Int),(0,0)))).2.1 :: ((p0.2.getD y0.1.toNat ((0:Int),((0:Int),(0,0)))).2.2.1 :: ((p0.2.getD y0.1.toNat ((0:Int),((0:Int),(0,0)))).2.2.2 :: ([]:List Int))))))≤1000)),(((decide (y0.1 < (p0.2.length:Int)))=true)→(v_inok ((p0.2.getD y0.1.toNat ((0:Int),((0:Int),(0,0)))).1 :: ((p0.2.getD y0.1.toNat ((0:Int),((0:Int),(0,0)))).2.1 :: ((p0.2.getD y0.1.toNat ((0:Int),((0:Int),(0,0)))).2.2.1 :: ((p0.2.getD y0.1.toNat ((0:Int),((0:Int),(0,0)))).2.2.2 :: ([]:List Int))))))),(((decide (y0.1 < (p0.2.length:Int)))=true)→(((((ByteArray.size (v_scat y0.2 (⟨#[59]⟩ : ByteArray))):Nat):Int) + (((ByteArray.size (v_fmt (v_itoa) ((p0.2.getD y0.1.toNat ((0:Int),((0:Int),(0,0)))).1 :: ((p0.2.getD y0.1.toNat ((0:Int),((0:Int),(0,0)))).2.1 :: ((p0.2.getD y0.1.toNat ((0:Int),((0:Int),(0,0)))).2.2.1 :: ((p0.2.getD y0.1.toNat ((0:Int),((0:Int),(0,0)))).2.2.2 :: ([]:List Int))))))):Nat):Int))≤9223372036854775807))]
def s_Zg (p0:tQA):ByteArray := (lpv (⟨#[]⟩ : ByteArray) (st_Zg_0 p0) ((0:Int),(v_itoa p0.1)))
abbrev pre_Zg (p0:tQA):List Prop := [((-9223372036854775808:Int)≤p0.1),(p0.1≤9223372036854775807),(OkL (st_Zg_0 p0) (sp_Zg_0 p0) ((0:Int),(v_itoa p0.1)))]
theorem d_Zg (p0:tQA) (K:ByteArray→Prop) (hp:∀ p∈pre_Zg p0,p) (h:K (s_Zg p0)):w_Zg p0 K := by
 unfold w_Zg
 unfold s_Zg at h
 obtain ⟨hp0,hp1,hp2,_⟩ := conj_of hp
 exact ⟨(hp0),(hp1),(loop_gen (hp2) h (fun y0 k0 hp h => by
 unfold st_Zg_0 at h; obtain ⟨hp0,hp1,hp2,hp3,hp4,hp5,_⟩ := conj_of hp
 exact (br' h (fun e1 h => ⟨(hp0 e1),(hp1 e1),(hp2 e1),(hp3 e1),(hp4 e1),(hp5 e1),h⟩)
  (fun e1 h => h))))⟩
theorem l_Zg_0 (p0:Int×List tQC) (hl:p0.2.length≤1000) (h1:v_in64 p0.1) (h:v_tiok p0.2):OkL (st_Zg_0 p0) (sp_Zg_0 p0) (0,v_itoa p0.1)∧lpv ⟨#[]⟩ (st_Zg_0 p0) (0,v_itoa p0.1)=v_fnet p0 := by
 have hf:(v_itoa p0.1).size≤100 := by exact Nat.le_trans (v_itoa_len' h1) (by decide)
 have hr := fmtb_is (dd := ⟨#[]⟩) (st := st_Zg_0 p0) (sp := sp_Zg_0 p0) (0,0,0,0) v_tie 59 (v_itoa p0.1) hl hf (fun x hx => v_tie_size (h x hx)) (fun y => by unfold st_Zg_0 v_tie; rfl) (fun j o hj ho hm => ?_)
 ·unfold v_fnet
  
  exact hr
 have b1 := fun (hj:j < p0.2.length) => h _ (hm hj)
 unfold sp_Zg_0
 have c1:(⟨#[59]⟩ : ByteArray).size = 1 := rfl
 simp only [fM,decide_eq_true_eq,decide_eq_false_iff_not,v_scat_size,Int.toNat_natCast,c1]
 by_cases hjl:j < p0.2.length
 ·have b := b1 hjl
  generalize p0.2.getD j (0,0,0,0)=x at b ⊢
  have z1 := v_tie_size b
  have hi:v_inok [x.1,x.2.1,x.2.2.1,x.2.2.2] := fun y hy => by
   simp only [List.mem_cons,List.not_mem_nil,or_false] at hy
   rcases hy with rfl | rfl | rfl | rfl
   ·exact b.1
   ·exact b.2.1
   ·exact b.2.2.1
   ·exact b.2.2.2
  unfold v_tie at z1
  and_intros
  all_goals first | (intros; exact hi) | (intros; simp only [List.length_cons,List.length_nil]; omega) | (intros; omega) | (simp; done)
 ·and_intros
  all_goals first | (intros; omega) | (simp; done)
abbrev t_Zg (p0:Int×List tQC):ByteArray := v_fnet p0
abbrev qre_Zg (p0:Int×List tQC):List Prop := [p0.2.length≤1000,v_in64 p0.1,v_tiok p0.2]
theorem pp_Zg (p0:Int×List tQC) (hq:∀ p∈qre_Zg p0,p):∀ p∈pre_Zg p0,p := by
 obtain ⟨h1,h2,h3,_⟩ := conj_of hq
 simp only [pre_Zg,fM]
 refine ⟨h2.1,h2.2,(l_Zg_0 p0 h1 h2 h3).1,by simp⟩
theorem tt_Zg (p0:Int×List tQC) (hq:∀ p∈qre_Zg p0,p):s_Zg p0 = t_Zg p0 := by
 obtain ⟨h1,h2,h3,_⟩ := conj_of hq
 exact (l_Zg_0 p0 h1 h2 h3).2

abbrev con_Zg:Con := ⟨P_Zg,R_Zg,fun x => qre_Zg x,fun x => t_Zg x⟩
theorem ok_Zg:ConOk Tryz.prog 47 con_Zg := okG k_Zg e_Zg hC_Zg fun x hx => tf_of (w_Zg_eq x _) (d_Zg x _ (pp_Zg x hx) (tt_Zg x hx))
def C_Zh:Cons := []
theorem hC_Zh:ConsOk Tryz.prog C_Zh := ConsOk.nil
def w_Zh (p0:gF) (p1:gF) (K:Bool→Prop):Prop := (((((p0.length:Int) != (p1.length:Int))=true) →(K false)) ∧((((p0.length:Int) != (p1.length:Int))=false) →(∃ n0,(loopP (fun (y1:Int) k2 => ((((decide (y1 < (p0.length:Int)))=true) →((zz0≤y1) ∧((y1 < (p0.length:Int)) ∧((zz0≤y1) ∧((y1 < (p1.length:Int)) ∧(((((p0.getD y1.toNat zz0) != (p1.getD y1.toNat zz0))=true) →(K false)) ∧((((p0.getD y1.toNat zz0) != (p1.getD y1.toNat zz0))=false) →(k2 (IntKind.i64.wrap (y1 + 1)))))))))) ∧(((decide (y1 < (p0.length:Int)))=false) →(K true)))) n0 zz0))))
theorem w_Zh_eq (p0:gF) (p1:gF) (K:Bool→Prop):tfn F_Zh A_Zh C_Zh P_Zh R_Zh (p0,p1) K = w_Zh p0 p1 K := by kernel_rfl
def st_Zh_0 (p0:gF) (p1:gF) (y1:Int):Int ⊕ Bool := (cond (decide (y1 < (p0.length:Int))) (cond ((p0.getD y1.toNat (0:Int)) != (p1.getD y1.toNat (0:Int))) (Sum.inr false) (Sum.inl (IntKind.i64.wrap (y1 + 1)))) (Sum.inr true))
abbrev sp_Zh_0 (p0:gF) (p1:gF) (y1:Int):List Prop := [(((decide (y1 < (p0.length:Int)))=true)→((0:Int)≤y1)),(((decide (y1 < (p0.length:Int)))=true)→(y1 < (p0.length:Int))),(((decide (y1 < (p0.length:Int)))=true)→(y1 < (p1.length:Int)))]
def s_Zh (p0:gF) (p1:gF):Bool := (cond ((p0.length:Int) != (p1.length:Int)) false (lpv false (st_Zh_0 p0 p1) (0:Int)))
abbrev pre_Zh (p0:gF) (p1:gF):List Prop := [((((p0.length:Int) != (p1.length:Int))=false)→(OkL (st_Zh_0 p0 p1) (sp_Zh_0 p0 p1) (0:Int)))]
theorem d_Zh (p0:gF) (p1:gF) (K:Bool→Prop) (hp:∀ p∈pre_Zh p0 p1,p) (h:K (s_Zh p0 p1)):w_Zh p0 p1 K := by
 unfold w_Zh
 unfold s_Zh at h
 obtain ⟨hp0,_⟩ := conj_of hp
 exact (br' h (fun e0 h => h)
  (fun e0 h => (loop_gen (hp0 e0) h (fun y1 k1 hp h => by
 unfold st_Zh_0 at h; obtain ⟨hp0,hp1,hp2,_⟩ := conj_of hp
 exact (br' h (fun e2 h => ⟨(hp0 e2),(hp1 e2),(hp0 e2),(hp2 e2),(br' h (fun e3 h => h)
  (fun e3 h => h))⟩)
  (fun e2 h => h))))))
theorem l_Zh_0 (p0 p1:gF) (hl:lenOk p0) (he:p0.length = p1.length):OkL (st_Zh_0 p0 p1) (sp_Zh_0 p0 p1) 0∧lpv false (st_Zh_0 p0 p1) 0 = v_scan (fun i x => cond (!((x == (p1.getD i.toNat 0)))) (some false) none) true 0 p0 := by
 refine scan_is p0 0 (fun i x => cond (!((x == (p1.getD i.toNat 0)))) (some false) none) true hl ?_ ?_
 ·refine ⟨by simp only [sp_Zh_0,fM,decide_eq_true_eq]; simp,by simp [st_Zh_0]⟩
 ·intro j hj
  have hj' : (j:Int) < p0.length := by omega
  refine ⟨by simp only [sp_Zh_0,fM,decide_eq_true_eq,Int.toNat_natCast]; simp <;> omega,?_⟩
  simp only [st_Zh_0,hj',decide_true,Int.toNat_natCast,cond_true,wrap_nat (show (j:Int)≤9223372036854775806 by unfold lenOk at hl; omega)]
  generalize p0.getD j 0 = x
  generalize p1.getD j 0 = z
  simp only [bne]
  cases (x == z) <;> rfl
abbrev t_Zh (p0 p1:gF):Bool := decide (p0 = p1)
abbrev qre_Zh (p0 _p1:gF):List Prop := [lenOk p0]
theorem pp_Zh (p0 p1:gF) (hq:∀ p∈qre_Zh p0 p1,p):∀ p∈pre_Zh p0 p1,p := by
 simp only [pre_Zh,fM]
 refine ⟨fun h => (l_Zh_0 p0 p1 (conj_of hq).1 ?_).1,by simp⟩
 have h' : (p0.length:Int)=p1.length := by simpa using h
 omega
theorem tt_Zh (p0 p1:gF) (hq:∀ p∈qre_Zh p0 p1,p):s_Zh p0 p1 = t_Zh p0 p1 := by
 unfold s_Zh t_Zh
 by_cases h:p0.length = p1.length
 ·rw [show ((p0.length:Int) != (p1.length:Int))=false by simp [h]]
  refine (l_Zh_0 p0 p1 (conj_of hq).1 h).2.trans ?_
  exact v_scan_eq 0 (fun x y => (x == y)) (fun x y => by by_cases h:x = y <;> simp [h]) p0 p1 h
 ·rw [show ((p0.length:Int) != (p1.length:Int))=true by simp; omega]
  have:p0 ≠ p1 := fun e => h (congrArg List.length e)
  simp [this]

abbrev con_Zh:Con := ⟨P_Zh,R_Zh,fun x => qre_Zh x.1 x.2,fun x => t_Zh x.1 x.2⟩
theorem ok_Zh:ConOk Tryz.prog 48 con_Zh := okG k_Zh e_Zh hC_Zh fun x hx => tf_of (w_Zh_eq x.1 x.2 _) (d_Zh x.1 x.2 _ (pp_Zh x.1 x.2 hx) (tt_Zh x.1 x.2 hx))
def C_Zd:Cons := []
theorem hC_Zd:ConsOk Tryz.prog C_Zd := ConsOk.nil
abbrev q0_Zd (p0:tQA) (p1:tQA) (y1:Int) := (!(((p0.2.getD y1.toNat (zz0,(zz0,(zz0,zz0)))).1 == (p1.2.getD y1.toNat (zz0,(zz0,(zz0,zz0)))).1) && (((p0.2.getD y1.toNat (zz0,(zz0,(zz0,zz0)))).2.1 == (p1.2.getD y1.toNat (zz0,(zz0,(zz0,zz0)))).2.1) && (((p0.2.getD y1.toNat (zz0,(zz0,(zz0,zz0)))).2.2.1 == (p1.2.getD y1.toNat (zz0,(zz0,(zz0,zz0)))).2.2.1) && (((p0.2.getD y1.toNat (zz0,(zz0,(zz0,zz0)))).2.2.2 == (p1.2.getD y1.toNat (zz0,(zz0,(zz0,zz0)))).2.2.2) && true)))))
def w_Zd (p0:tQA) (p1:tQA) (K:Bool→Prop):Prop := ((((p0.1 != p1.1)=false) →((p0.1 != p1.1)=(p0.1 != p1.1))) ∧((((p0.1 != p1.1)=false) →((p0.1 != p1.1)=(p0.1 != p1.1))) ∧((((p0.1 != p1.1)=false) →((p0.1 != p1.1)=(p0.1 != p1.1))) ∧((((p0.1 != p1.1)=false) →((p0.1 != p1.1)=(p0.1 != p1.1))) ∧((((p0.1 != p1.1)=false) →((p0.1 != p1.1)=(p0.1 != p1.1))) ∧((((p0.1 != p1.1)=false) →((p0.1 != p1.1)=(p0.1 != p1.1))) ∧(((p0.1 != p1.1)=(p0.1 != p1.1)) ∧((((cond (p0.1 != p1.1) true ((p0.2.length:Int) != (p1.2.length:Int)))=true) →(K false)) ∧(((cond (p0.1 != p1.1) true ((p0.2.length:Int) != (p1.2.length:Int)))=false) →(∃ n0,(loopP (fun (y1:Int) k2 => ((((decide (y1 < (p0.2.length:Int)))=true) →((zz0≤y1) ∧((y1 < (p0.2.length:Int)) ∧((zz0≤y1) ∧((y1 < (p1.2.length:Int)) ∧((((q0_Zd p0 p1 y1)=true) →(K false)) ∧(((q0_Zd p0 p1 y1)=false) →(k2 (wi (y1 + zz1)))))))))) ∧(((decide (y1 < (p0.2.length:Int)))=false) →(K true)))) n0 zz0)))))))))))
theorem w_Zd_eq (p0:tQA) (p1:tQA) (K:Bool→Prop):tfn F_Zd A_Zd C_Zd P_Zd R_Zd (p0,p1) K = w_Zd p0 p1 K := by kernel_rfl
def st_Zd_0 (p0:tQA) (p1:tQA) (y1:Int):Int ⊕ Bool := (cond (decide (y1 < (p0.2.length:Int))) (cond (!(((p0.2.getD y1.toNat ((0:Int),((0:Int),(0,0)))).1 == (p1.2.getD y1.toNat ((0:Int),((0:Int),(0,0)))).1) && (((p0.2.getD y1.toNat ((0:Int),((0:Int),(0,0)))).2.1 == (p1.2.getD y1.toNat ((0:Int),((0:Int),(0,0)))).2.1) && (((p0.2.getD y1.toNat ((0:Int),((0:Int),(0,0)))).2.2.1 == (p1.2.getD y1.toNat ((0:Int),((0:Int),(0,0)))).2.2.1) && (((p0.2.getD y1.toNat ((0:Int),((0:Int),(0,0)))).2.2.2 == (p1.2.getD y1.toNat ((0:Int),((0:Int),(0,0)))).2.2.2) && true))))) (Sum.inr false) (Sum.inl (IntKind.i64.wrap (y1 + 1)))) (Sum.inr true))
abbrev sp_Zd_0 (p0:tQA) (p1:tQA) (y1:Int):List Prop := [(((decide (y1 < (p0.2.length:Int)))=true)→((0:Int)≤y1)),(((decide (y1 < (p0.2.length:Int)))=true)→(y1 < (p0.2.length:Int))),(((decide (y1 < (p0.2.length:Int)))=true)→(y1 < (p1.2.length:Int)))]
def s_Zd (p0:tQA) (p1:tQA):Bool := (cond (cond (p0.1 != p1.1) true ((p0.2.length:Int) != (p1.2.length:Int))) false (lpv false (st_Zd_0 p0 p1) (0:Int)))
abbrev pre_Zd (p0:tQA) (p1:tQA):List Prop := [(((cond (p0.1 != p1.1) true ((p0.2.length:Int) != (p1.2.length:Int)))=false)→(OkL (st_Zd_0 p0 p1) (sp_Zd_0 p0 p1) (0:Int)))]
theorem d_Zd (p0:tQA) (p1:tQA) (K:Bool→Prop) (hp:∀ p∈pre_Zd p0 p1,p) (h:K (s_Zd p0 p1)):w_Zd p0 p1 K := by
 unfold w_Zd
 unfold s_Zd at h
 obtain ⟨hp0,_⟩ := conj_of hp
 exact ⟨rf,rf,rf,rf,rf,rf,rfl,(br' h (fun e0 h => h)
  (fun e0 h => (loop_gen (hp0 e0) h (fun y1 k1 hp h => by
 unfold st_Zd_0 at h; obtain ⟨hp0,hp1,hp2,_⟩ := conj_of hp
 exact (br' h (fun e2 h => ⟨(hp0 e2),(hp1 e2),(hp0 e2),(hp2 e2),(br' h (fun e3 h => h)
  (fun e3 h => h))⟩)
  (fun e2 h => h))))))⟩
theorem l_Zd_0 (p0 p1:Int×List tQC) (hl:lenOk p0.2) (he:p0.2.length = p1.2.length):OkL (st_Zd_0 p0 p1) (sp_Zd_0 p0 p1) 0∧lpv false (st_Zd_0 p0 p1) 0 = v_scan (fun i x => cond (!(((x.1 == (p1.2.getD i.toNat (0,0,0,0)).1) && ((x.2.1 == (p1.2.getD i.toNat (0,0,0,0)).2.1) && ((x.2.2.1 == (p1.2.getD i.toNat (0,0,0,0)).2.2.1) && ((x.2.2.2 == (p1.2.getD i.toNat (0,0,0,0)).2.2.2) && true)))))) (some false) none) true 0 p0.2 := by
 refine scan_is p0.2 (0,0,0,0) (fun i x => cond (!(((x.1 == (p1.2.getD i.toNat (0,0,0,0)).1) && ((x.2.1 == (p1.2.getD i.toNat (0,0,0,0)).2.1) && ((x.2.2.1 == (p1.2.getD i.toNat (0,0,0,0)).2.2.1) && ((x.2.2.2 == (p1.2.getD i.toNat (0,0,0,0)).2.2.2) && true)))))) (some false) none) true hl ?_ ?_
 ·refine ⟨by simp only [sp_Zd_0,fM,decide_eq_true_eq]; simp,by simp [st_Zd_0]⟩
 ·intro j hj
  have hj' : (j:Int) < p0.2.length := by omega
  refine ⟨by simp only [sp_Zd_0,fM,decide_eq_true_eq,Int.toNat_natCast]; simp <;> omega,?_⟩
  simp only [st_Zd_0,hj',decide_true,Int.toNat_natCast,cond_true,wrap_nat (show (j:Int)≤9223372036854775806 by unfold lenOk at hl; omega)]
  generalize p0.2.getD j (0,0,0,0)=x
  generalize p1.2.getD j (0,0,0,0)=z
  cases ((x.1 == z.1) && ((x.2.1 == z.2.1) && ((x.2.2.1 == z.2.2.1) && ((x.2.2.2 == z.2.2.2) && true)))) <;> rfl
abbrev t_Zd (p0 p1:Int×List tQC):Bool := decide (p0 = p1)
abbrev qre_Zd (p0 _p1:Int×List tQC):List Prop := [lenOk p0.2]
theorem x_Zd {p0 p1:Int×List tQC} (h:cond (p0.1 != p1.1) true ((p0.2.length:Int) != p1.2.length)=false):p0.1 = p1.1∧p0.2.length = p1.2.length := by
 cases h1:(p0.1 != p1.1) with
 | true => rw [h1] at h; cases h
 | false =>
  rw [h1,cond_false] at h
  have h2:(p0.2.length:Int)=p1.2.length := by simpa using h
  exact ⟨by simpa using h1,by omega⟩
theorem pp_Zd (p0 p1:Int×List tQC) (hq:∀ p∈qre_Zd p0 p1,p):∀ p∈pre_Zd p0 p1,p := by
 simp only [pre_Zd,fM]
 exact ⟨fun h => (l_Zd_0 p0 p1 (conj_of hq).1 (x_Zd h).2).1,by simp⟩
theorem tt_Zd (p0 p1:Int×List tQC) (hq:∀ p∈qre_Zd p0 p1,p):s_Zd p0 p1 = t_Zd p0 p1 := by
 unfold s_Zd t_Zd
 cases h:cond (p0.1 != p1.1) true ((p0.2.length:Int) != p1.2.length) with
 | true =>
  have:p0 ≠ p1 := fun e => by subst e; simp at h
  simp [this]
 | false =>
  obtain ⟨h1,h2⟩ := x_Zd h
  refine (l_Zd_0 p0 p1 (conj_of hq).1 h2).2.trans ?_
  rw [v_scan_eq (0,0,0,0) (fun x y => ((x.1 == y.1) && ((x.2.1 == y.2.1) && ((x.2.2.1 == y.2.2.1) && ((x.2.2.2 == y.2.2.2) && true))))) (fun x y => by
   obtain ⟨a,b,e,g⟩ := x
   obtain ⟨c,d,f,i⟩ := y
   by_cases h1:a = c <;> by_cases h2:b = d <;> by_cases h3:e = f <;> by_cases h4:g = i <;> simp [h1,h2,h3,h4]) p0.2 p1.2 h2]
  exact decide_eq_decide.2 ⟨fun e => Prod.ext h1 e,fun e => by rw [e]⟩

abbrev con_Zd:Con := ⟨P_Zd,R_Zd,fun x => qre_Zd x.1 x.2,fun x => t_Zd x.1 x.2⟩
theorem ok_Zd:ConOk Tryz.prog 13 con_Zd := okG k_Zd e_Zd hC_Zd fun x hx => tf_of (w_Zd_eq x.1 x.2 _) (d_Zd x.1 x.2 _ (pp_Zd x.1 x.2 hx) (tt_Zd x.1 x.2 hx))
def C_Z1:Cons := [(38,[],con_Z1c),(39,[],con_Z16),(40,[],con_Z17),(42,[],con_Z18),(41,[],con_Z19),(12,[],con_Z15),(11,[],con_Zf),(43,[],con_Zz),(10,[],con_Z2),(44,[],con_Z10),(45,[],con_Z3),(46,[],con_Z1a),(47,[],con_Zg),(48,[],con_Zh),(13,[],con_Zd),(49,[],con_Zi),(50,[],con_Z14)]
theorem hC_Z1:ConsOk Tryz.prog C_Z1 := cC ok_Z1c <| cC ok_Z16 <| cC ok_Z17 <| cC ok_Z18 <| cC ok_Z19 <| cC ok_Z15 <| cC ok_Zf <| cC ok_Zz <| cC ok_Z2 <| cC ok_Z10 <| cC ok_Z3 <| cC ok_Z1a <| cC ok_Zg <| cC ok_Zh <| cC ok_Zd <| cC ok_Zi <| cC ok_Z14 <| ConsOk.nil
abbrev q2_Z1 (p1:tQA) := (v_fnet (p1.1,(([]:List tQB) ++ p1.2)))
abbrev q4_Z1 (p0:gF) (p1:tQA) := (cond (!(v_seq (v_fmt (v_itoa) p0) (v_fmt (v_itoa) p0))) true (!(v_seq (q2_Z1 p1) (v_fnet p1))))
abbrev q0_Z1 (p0:gF) (p1:tQA) (p2:ByteArray) := (cond (q4_Z1 p0 p1) true ((v_pfil p2).2 != (v_pfil p2).2))
abbrev q1_Z1 (p0:gF) (p1:tQA) (p2:ByteArray) := (cond (q0_Z1 p0 p1 p2) true (!(decide ((v_pfil p2).1 = (v_pfil p2).1))))
abbrev q3_Z1 (p0:gF) (p1:tQA) := (cond (!(decide ((p0.length:Int)≤11))) true (!(decide ((p1.2.length:Int)≤14))))
abbrev q5_Z1 (p0:gF) := (((v_pfil (v_fmt (v_itoa) p0)).2 != zz0)=((v_pfil (v_fmt (v_itoa) p0)).2 != zz0))
def w_Z1 (p0:gF) (p1:tQA) (p2:ByteArray) (K:Bool→Prop):Prop := ((((!(s_Z1c))=true) →(K false)) ∧(((!(s_Z1c))=false) →((((!(decide ((p0.length:Int)≤11)))=false) →((!(decide ((p0.length:Int)≤11)))=(!(decide ((p0.length:Int)≤11))))) ∧((((!(decide ((p0.length:Int)≤11)))=false) →((!(decide ((p0.length:Int)≤11)))=(!(decide ((p0.length:Int)≤11))))) ∧(((!(decide ((p0.length:Int)≤11)))=(!(decide ((p0.length:Int)≤11)))) ∧((((q3_Z1 p0 p1)=false) →((q3_Z1 p0 p1)=(q3_Z1 p0 p1))) ∧((((q3_Z1 p0 p1)=false) →((q3_Z1 p0 p1)=(q3_Z1 p0 p1))) ∧(((q3_Z1 p0 p1)=(q3_Z1 p0 p1)) ∧((((cond (q3_Z1 p0 p1) true (decide ((((ByteArray.size p2):Nat):Int) > 300)))=true) →(K true)) ∧(((cond (q3_Z1 p0 p1) true (decide ((((ByteArray.size p2):Nat):Int) > 300)))=false) →((p0.length≤1000000) ∧((p0.length≤1000) ∧((v_inok p0) ∧(((((List.length ([]:List tQB)) + p1.2.length) * 32)≤140737488355328) ∧(((List.length (([]:List tQB) ++ p1.2))≤1000) ∧((v_in64 p1.1) ∧((v_tiok (([]:List tQB) ++ p1.2)) ∧((p0.length≤1000) ∧((v_inok p0) ∧((((!(v_seq (v_fmt (v_itoa) p0) (v_fmt (v_itoa) p0)))=false) →((!(v_seq (v_fmt (v_itoa) p0) (v_fmt (v_itoa) p0)))=(!(v_seq (v_fmt (v_itoa) p0) (v_fmt (v_itoa) p0))))) ∧((((!(v_seq (v_fmt (v_itoa) p0) (v_fmt (v_itoa) p0)))=false) →(p1.2.length≤1000)) ∧((((!(v_seq (v_fmt (v_itoa) p0) (v_fmt (v_itoa) p0)))=false) →(v_in64 p1.1)) ∧((((!(v_seq (v_fmt (v_itoa) p0) (v_fmt (v_itoa) p0)))=false) →(v_tiok p1.2)) ∧((((!(v_seq (v_fmt (v_itoa) p0) (v_fmt (v_itoa) p0)))=false) →((!(v_seq (v_fmt (v_itoa) p0) (v_fmt (v_itoa) p0)))=(!(v_seq (v_fmt (v_itoa) p0) (v_fmt (v_itoa) p0))))) ∧((((!(v_seq (v_fmt (v_itoa) p0) (v_fmt (v_itoa) p0)))=false) →((!(v_seq (v_fmt (v_itoa) p0) (v_fmt (v_itoa) p0)))=(!(v_seq (v_fmt (v_itoa) p0) (v_fmt (v_itoa) p0))))) ∧(((!(v_seq (v_fmt (v_itoa) p0) (v_fmt (v_itoa) p0)))=(!(v_seq (v_fmt (v_itoa) p0) (v_fmt (v_itoa) p0)))) ∧((((q4_Z1 p0 p1)=false) →((q4_Z1 p0 p1)=(q4_Z1 p0 p1))) ∧((((q4_Z1 p0 p1)=false) →((q4_Z1 p0 p1)=(q4_Z1 p0 p1))) ∧(((q4_Z1 p0 p1)=(q4_Z1 p0 p1)) ∧((((q0_Z1 p0 p1 p2)=false) →((q0_Z1 p0 p1 p2)=(q0_Z1 p0 p1 p2))) ∧((((q0_Z1 p0 p1 p2)=false) →((q0_Z1 p0 p1 p2)=(q0_Z1 p0 p1 p2))) ∧((((q0_Z1 p0 p1 p2)=false) →((q0_Z1 p0 p1 p2)=(q0_Z1 p0 p1 p2))) ∧((((q0_Z1 p0 p1 p2)=false) →((q0_Z1 p0 p1 p2)=(q0_Z1 p0 p1 p2))) ∧((((q0_Z1 p0 p1 p2)=false) →(lenOk (v_pfil p2).1)) ∧((((q0_Z1 p0 p1 p2)=false) →((q0_Z1 p0 p1 p2)=(q0_Z1 p0 p1 p2))) ∧(((q0_Z1 p0 p1 p2)=(q0_Z1 p0 p1 p2)) ∧((((q1_Z1 p0 p1 p2)=false) →((q1_Z1 p0 p1 p2)=(q1_Z1 p0 p1 p2))) ∧((((q1_Z1 p0 p1 p2)=false) →((q1_Z1 p0 p1 p2)=(q1_Z1 p0 p1 p2))) ∧(((q1_Z1 p0 p1 p2)=(q1_Z1 p0 p1 p2)) ∧((((cond (q1_Z1 p0 p1 p2) true ((v_pnet (fun n => (v_net n).2) p2).2 != (v_pnet (fun n => (v_net n).2) p2).2))=false) →((cond (q1_Z1 p0 p1 p2) true ((v_pnet (fun n => (v_net n).2) p2).2 != (v_pnet (fun n => (v_net n).2) p2).2))=(cond (q1_Z1 p0 p1 p2) true ((v_pnet (fun n => (v_net n).2) p2).2 != (v_pnet (fun n => (v_net n).2) p2).2)))) ∧((((cond (q1_Z1 p0 p1 p2) true ((v_pnet (fun n => (v_net n).2) p2).2 != (v_pnet (fun n => (v_net n).2) p2).2))=false) →((cond (q1_Z1 p0 p1 p2) true ((v_pnet (fun n => (v_net n).2) p2).2 != (v_pnet (fun n => (v_net n).2) p2).2))=(cond (q1_Z1 p0 p1 p2) true ((v_pnet (fun n => (v_net n).2) p2).2 != (v_pnet (fun n => (v_net n).2) p2).2)))) ∧((((cond (q1_Z1 p0 p1 p2) true ((v_pnet (fun n => (v_net n).2) p2).2 != (v_pnet (fun n => (v_net n).2) p2).2))=false) →(lenOk (v_pnet (fun n => (v_net n).2) p2).1.2)) ∧((((cond (q1_Z1 p0 p1 p2) true ((v_pnet (fun n => (v_net n).2) p2).2 != (v_pnet (fun n => (v_net n).2) p2).2))=false) →((cond (q1_Z1 p0 p1 p2) true ((v_pnet (fun n => (v_net n).2) p2).2 != (v_pnet (fun n => (v_net n).2) p2).2))=(cond (q1_Z1 p0 p1 p2) true ((v_pnet (fun n => (v_net n).2) p2).2 != (v_pnet (fun n => (v_net n).2) p2).2)))) ∧(((cond (q1_Z1 p0 p1 p2) true ((v_pnet (fun n => (v_net n).2) p2).2 != (v_pnet (fun n => (v_net n).2) p2).2))=(cond (q1_Z1 p0 p1 p2) true ((v_pnet (fun n => (v_net n).2) p2).2 != (v_pnet (fun n => (v_net n).2) p2).2))) ∧((((cond (cond (q1_Z1 p0 p1 p2) true ((v_pnet (fun n => (v_net n).2) p2).2 != (v_pnet (fun n => (v_net n).2) p2).2)) true (!(decide ((v_pnet (fun n => (v_net n).2) p2).1 = (v_pnet (fun n => (v_net n).2) p2).1))))=true) →(K false)) ∧(((cond (cond (q1_Z1 p0 p1 p2) true ((v_pnet (fun n => (v_net n).2) p2).2 != (v_pnet (fun n => (v_net n).2) p2).2)) true (!(decide ((v_pnet (fun n => (v_net n).2) p2).1 = (v_pnet (fun n => (v_net n).2) p2).1))))=false) →(((((v_filerr p0) == zz0)=true) →(((((v_pfil (v_fmt (v_itoa) p0)).2 != zz0)=false) →(q5_Z1 p0)) ∧(((((v_pfil (v_fmt (v_itoa) p0)).2 != zz0)=false) →(q5_Z1 p0)) ∧(((((v_pfil (v_fmt (v_itoa) p0)).2 != zz0)=false) →(q5_Z1 p0)) ∧(((((v_pfil (v_fmt (v_itoa) p0)).2 != zz0)=false) →(q5_Z1 p0)) ∧(((((v_pfil (v_fmt (v_itoa) p0)).2 != zz0)=false) →(lenOk (v_pfil (v_fmt (v_itoa) p0)).1)) ∧(((((v_pfil (v_fmt (v_itoa) p0)).2 != zz0)=false) →(q5_Z1 p0)) ∧((q5_Z1 p0) ∧((((cond ((v_pfil (v_fmt (v_itoa) p0)).2 != zz0) true (!(decide ((v_pfil (v_fmt (v_itoa) p0)).1 = p0))))=true) →(K false)) ∧(((cond ((v_pfil (v_fmt (v_itoa) p0)).2 != zz0) true (!(decide ((v_pfil (v_fmt (v_itoa) p0)).1 = p0))))=false) →(((((v_net p1).2 != zz0)=true) →(K true)) ∧((((v_net p1).2 != zz0)=false) →(((((v_pnet (fun n => (v_net n).2) (q2_Z1 p1)).2 == zz0)=true) →(((v_pnet (fun n => (v_net n).2) (q2_Z1 p1)).2 == zz0)=((v_pnet (fun n => (v_net n).2) (q2_Z1 p1)).2 == zz0))) ∧(((((v_pnet (fun n => (v_net n).2) (q2_Z1 p1)).2 == zz0)=true) →(((v_pnet (fun n => (v_net n).2) (q2_Z1 p1)).2 == zz0)=((v_pnet (fun n => (v_net n).2) (q2_Z1 p1)).2 == zz0))) ∧(((((v_pnet (fun n => (v_net n).2) (q2_Z1 p1)).2 == zz0)=true) →(lenOk (v_pnet (fun n => (v_net n).2) (q2_Z1 p1)).1.2)) ∧((((v_pnet (fun n => (v_net n).2) (q2_Z1 p1)).2 == zz0)=((v_pnet (fun n => (v_net n).2) (q2_Z1 p1)).2 == zz0)) ∧(K (cond ((v_pnet (fun n => (v_net n).2) (q2_Z1 p1)).2 == zz0) (decide ((v_pnet (fun n => (v_net n).2) (q2_Z1 p1)).1 = p1)) false)))))))))))))))))) ∧((((v_filerr p0) == zz0)=false) →(((((v_net p1).2 != zz0)=true) →(K true)) ∧((((v_net p1).2 != zz0)=false) →(((((v_pnet (fun n => (v_net n).2) (q2_Z1 p1)).2 == zz0)=true) →(((v_pnet (fun n => (v_net n).2) (q2_Z1 p1)).2 == zz0)=((v_pnet (fun n => (v_net n).2) (q2_Z1 p1)).2 == zz0))) ∧(((((v_pnet (fun n => (v_net n).2) (q2_Z1 p1)).2 == zz0)=true) →(((v_pnet (fun n => (v_net n).2) (q2_Z1 p1)).2 == zz0)=((v_pnet (fun n => (v_net n).2) (q2_Z1 p1)).2 == zz0))) ∧(((((v_pnet (fun n => (v_net n).2) (q2_Z1 p1)).2 == zz0)=true) →(lenOk (v_pnet (fun n => (v_net n).2) (q2_Z1 p1)).1.2)) ∧((((v_pnet (fun n => (v_net n).2) (q2_Z1 p1)).2 == zz0)=((v_pnet (fun n => (v_net n).2) (q2_Z1 p1)).2 == zz0)) ∧(K (cond ((v_pnet (fun n => (v_net n).2) (q2_Z1 p1)).2 == zz0) (decide ((v_pnet (fun n => (v_net n).2) (q2_Z1 p1)).1 = p1)) false))))))))))))))))))))))))))))))))))))))))))))))))))))))))
theorem w_Z1_eq (p0:gF) (p1:tQA) (p2:ByteArray) (K:Bool→Prop):tfn F_Z1 A_Z1 C_Z1 P_Z1 R_Z1 (p0,p1,p2) K = w_Z1 p0 p1 p2 K := by kernel_rfl
def s_Z1 (p0:gF) (p1:tQA) (p2:ByteArray):Bool := (cond (cond (cond (!(decide ((p0.length:Int)≤11))) true (!(decide ((p1.2.length:Int)≤14)))) true (decide ((((ByteArray.size p2):Nat):Int) > 300))) true (cond (cond (cond (cond (cond (cond (!(v_seq (v_fmt (v_itoa) p0) (v_fmt (v_itoa) p0))) true (!(v_seq (v_fnet (p1.1,(([]:List tQB) ++ p1.2))) (v_fnet p1)))) true ((v_pfil p2).2 != (v_pfil p2).2)) true (!(decide ((v_pfil p2).1 = (v_pfil p2).1)))) true ((v_pnet (fun n => (v_net n).2) p2).2 != (v_pnet (fun n => (v_net n).2) p2).2)) true (!(decide ((v_pnet (fun n => (v_net n).2) p2).1 = (v_pnet (fun n => (v_net n).2) p2).1)))) false (cond ((v_filerr p0) == 0) (cond (cond ((v_pfil (v_fmt (v_itoa) p0)).2 != 0) true (!(decide ((v_pfil (v_fmt (v_itoa) p0)).1 = p0)))) false (cond ((v_net p1).2 != 0) true (cond ((v_pnet (fun n => (v_net n).2) (v_fnet (p1.1,(([]:List tQB) ++ p1.2)))).2 == 0) (decide ((v_pnet (fun n => (v_net n).2) (v_fnet (p1.1,(([]:List tQB) ++ p1.2)))).1 = p1)) false))) (cond ((v_net p1).2 != 0) true (cond ((v_pnet (fun n => (v_net n).2) (v_fnet (p1.1,(([]:List tQB) ++ p1.2)))).2 == 0) (decide ((v_pnet (fun n => (v_net n).2) (v_fnet (p1.1,(([]:List tQB) ++ p1.2)))).1 = p1)) false)))))
abbrev pre_Z1 (p0:gF) (p1:tQA) (p2:ByteArray):List Prop := [(((cond (cond (!(decide ((p0.length:Int)≤11))) true (!(decide ((p1.2.length:Int)≤14)))) true (decide ((((ByteArray.size p2):Nat):Int) > 300)))=false)→(p0.length≤1000000)),(((cond (cond (!(decide ((p0.length:Int)≤11))) true (!(decide ((p1.2.length:Int)≤14)))) true (decide ((((ByteArray.size p2):Nat):Int) > 300)))=false)→(p0.length≤1000)),(((cond (cond (!(decide ((p0.length:Int)≤11))) true (!(decide ((p1.2.length:Int)≤14)))) true (decide ((((ByteArray.size p2):Nat):Int) > 300)))=false)→(v_inok p0)),(((cond (cond (!(decide ((p0.length:Int)≤11))) true (!(decide ((p1.2.length:Int)≤14)))) true (decide ((((ByteArray.size p2):Nat):Int) > 300)))=false)→((((List.length ([]:List tQB)) + p1.2.length) * 32)≤140737488355328)),(((cond (cond (!(decide ((p0.length:Int)≤11))) true (!(decide ((p1.2.length:Int)≤14)))) true (decide ((((ByteArray.size p2):Nat):Int) > 300)))=false)→((List.length (([]:List tQB) ++ p1.2))≤1000)),(((cond (cond (!(decide ((p0.length:Int)≤11))) true (!(decide ((p1.2.length:Int)≤14)))) true (decide ((((ByteArray.size p2):Nat):Int) > 300)))=false)→(v_in64 p1.1)),(((cond (cond (!(decide ((p0.length:Int)≤11))) true (!(decide ((p1.2.length:Int)≤14)))) true (decide ((((ByteArray.size p2):Nat):Int) > 300)))=false)→(v_tiok (([]:List tQB) ++ p1.2))),(((cond (cond (!(decide ((p0.length:Int)≤11))) true (!(decide ((p1.2.length:Int)≤14)))) true (decide ((((ByteArray.size p2):Nat):Int) > 300)))=false)→(((!(v_seq (v_fmt (v_itoa) p0) (v_fmt (v_itoa) p0)))=false)→(p1.2.length≤1000))),(((cond (cond (!(decide ((p0.length:Int)≤11))) true (!(decide ((p1.2.length:Int)≤14)))) true (decide ((((ByteArray.size p2):Nat):Int) > 300)))=false)→(((!(v_seq (v_fmt (v_itoa) p0) (v_fmt (v_itoa) p0)))=false)→(v_in64 p1.1))),(((cond (cond (!(decide ((p0.length:Int)≤11))) true (!(decide ((p1.2.length:Int)≤14)))) true (decide ((((ByteArray.size p2):Nat):Int) > 300)))=false)→(((!(v_seq (v_fmt (v_itoa) p0) (v_fmt (v_itoa) p0)))=false)→(v_tiok p1.2))),(((cond (cond (!(decide ((p0.length:Int)≤11))) true (!(decide ((p1.2.length:Int)≤14)))) true (decide ((((ByteArray.size p2):Nat):Int) > 300)))=false)→(((cond (cond (!(v_seq (v_fmt (v_itoa) p0) (v_fmt (v_itoa) p0))) true (!(v_seq (v_fnet (p1.1,(([]:List tQB) ++ p1.2))) (v_fnet p1)))) true ((v_pfil p2).2 != (v_pfil p2).2))=false)→(lenOk (v_pfil p2).1))),(((cond (cond (!(decide ((p0.length:Int)≤11))) true (!(decide ((p1.2.length:Int)≤14)))) true (decide ((((ByteArray.size p2):Nat):Int) > 300)))=false)→(((cond (cond (cond (cond (!(v_seq (v_fmt (v_itoa) p0) (v_fmt (v_itoa) p0))) true (!(v_seq (v_fnet (p1.1,(([]:List tQB) ++ p1.2))) (v_fnet p1)))) true ((v_pfil p2).2 != (v_pfil p2).2)) true (!(decide ((v_pfil p2).1 = (v_pfil p2).1)))) true ((v_pnet (fun n => (v_net n).2) p2).2 != (v_pnet (fun n => (v_net n).2) p2).2))=false)→(lenOk (v_pnet (fun n => (v_net n).2) p2).1.2))),(((cond (cond (!(decide ((p0.length:Int)≤11))) true (!(decide ((p1.2.length:Int)≤14)))) true (decide ((((ByteArray.size p2):Nat):Int) > 300)))=false)→(((cond (cond (cond (cond (cond (!(v_seq (v_fmt (v_itoa) p0) (v_fmt (v_itoa) p0))) true (!(v_seq (v_fnet (p1.1,(([]:List tQB) ++ p1.2))) (v_fnet p1)))) true ((v_pfil p2).2 != (v_pfil p2).2)) true (!(decide ((v_pfil p2).1 = (v_pfil p2).1)))) true ((v_pnet (fun n => (v_net n).2) p2).2 != (v_pnet (fun n => (v_net n).2) p2).2)) true (!(decide ((v_pnet (fun n => (v_net n).2) p2).1 = (v_pnet (fun n => (v_net n).2) p2).1))))=false)→((((v_filerr p0) == 0)=true)→((((v_pfil (v_fmt (v_itoa) p0)).2 != 0)=false)→(lenOk (v_pfil (v_fmt (v_itoa) p0)).1))))),(((cond (cond (!(decide ((p0.length:Int)≤11))) true (!(decide ((p1.2.length:Int)≤14)))) true (decide ((((ByteArray.size p2):Nat):Int) > 300)))=false)→(((cond (cond (cond (cond (cond (!(v_seq (v_fmt (v_itoa) p0) (v_fmt (v_itoa) p0))) true (!(v_seq (v_fnet (p1.1,(([]:List tQB) ++ p1.2))) (v_fnet p1)))) true ((v_pfil p2).2 != (v_pfil p2).2)) true (!(decide ((v_pfil p2).1 = (v_pfil p2).1)))) true ((v_pnet (fun n => (v_net n).2) p2).2 != (v_pnet (fun n => (v_net n).2) p2).2)) true (!(decide ((v_pnet (fun n => (v_net n).2) p2).1 = (v_pnet (fun n => (v_net n).2) p2).1))))=false)→((((v_filerr p0) == 0)=true)→(((cond ((v_pfil (v_fmt (v_itoa) p0)).2 != 0) true (!(decide ((v_pfil (v_fmt (v_itoa) p0)).1 = p0))))=false)→((((v_net p1).2 != 0)=false)→((((v_pnet (fun n => (v_net n).2) (v_fnet (p1.1,(([]:List tQB) ++ p1.2)))).2 == 0)=true)→(lenOk (v_pnet (fun n => (v_net n).2) (v_fnet (p1.1,(([]:List tQB) ++ p1.2)))).1.2))))))),(((cond (cond (!(decide ((p0.length:Int)≤11))) true (!(decide ((p1.2.length:Int)≤14)))) true (decide ((((ByteArray.size p2):Nat):Int) > 300)))=false)→(((cond (cond (cond (cond (cond (!(v_seq (v_fmt (v_itoa) p0) (v_fmt (v_itoa) p0))) true (!(v_seq (v_fnet (p1.1,(([]:List tQB) ++ p1.2))) (v_fnet p1)))) true ((v_pfil p2).2 != (v_pfil p2).2)) true (!(decide ((v_pfil p2).1 = (v_pfil p2).1)))) true ((v_pnet (fun n => (v_net n).2) p2).2 != (v_pnet (fun n => (v_net n).2) p2).2)) true (!(decide ((v_pnet (fun n => (v_net n).2) p2).1 = (v_pnet (fun n => (v_net n).2) p2).1))))=false)→((((v_filerr p0) == 0)=false)→((((v_net p1).2 != 0)=false)→((((v_pnet (fun n => (v_net n).2) (v_fnet (p1.1,(([]:List tQB) ++ p1.2)))).2 == 0)=true)→(lenOk (v_pnet (fun n => (v_net n).2) (v_fnet (p1.1,(([]:List tQB) ++ p1.2)))).1.2))))))]
theorem d_Z1 (p0:gF) (p1:tQA) (p2:ByteArray) (K:Bool→Prop) (hp:∀ p∈pre_Z1 p0 p1 p2,p) (h:K (s_Z1 p0 p1 p2)):w_Z1 p0 p1 p2 K := by
 unfold w_Z1
 unfold s_Z1 at h
 obtain ⟨hp0,hp1,hp2,hp3,hp4,hp5,hp6,hp7,hp8,hp9,hp10,hp11,hp12,hp13,hp14,_⟩ := conj_of hp
 exact ⟨nof,fun _ => ⟨rf,rf,rfl,rf,rf,rfl,(br' h (fun e0 h => h)
  (fun e0 h => ⟨(hp0 e0),(hp1 e0),(hp2 e0),(hp3 e0),(hp4 e0),(hp5 e0),(hp6 e0),(hp1 e0),(hp2 e0),rf,(hp7 e0),(hp8 e0),(hp9 e0),rf,rf,rfl,rf,rf,rfl,rf,rf,rf,rf,(hp10 e0),rf,rfl,rf,rf,rfl,rf,rf,(hp11 e0),rf,rfl,(br' h (fun e1 h => h)
  (fun e1 h => (br' h (fun e2 h => ⟨rf,rf,rf,rf,(hp12 e0 e1 e2),rf,rfl,(br' h (fun e3 h => h)
  (fun e3 h => (br' h (fun e4 h => h)
  (fun e4 h => ⟨rf,rf,(hp13 e0 e1 e2 e3 e4),rfl,h⟩))))⟩)
  (fun e2 h => (br' h (fun e5 h => h)
  (fun e5 h => ⟨rf,rf,(hp14 e0 e1 e2 e5),rfl,h⟩))))))⟩))⟩⟩
abbrev con_Z1:Con := ⟨P_Z1,R_Z1,fun x => pre_Z1 x.1 x.2.1 x.2.2,fun x => s_Z1 x.1 x.2.1 x.2.2⟩
theorem ok_Z1:ConOk Tryz.prog 5 con_Z1 := okG k_Z1 e_Z1 hC_Z1 fun x hx => tf_of (w_Z1_eq x.1 x.2.1 x.2.2 _) (d_Z1 x.1 x.2.1 x.2.2 _ hx rfl)
end Go.Proofs.YtepdfhjmngbhhaaGreatDoor
