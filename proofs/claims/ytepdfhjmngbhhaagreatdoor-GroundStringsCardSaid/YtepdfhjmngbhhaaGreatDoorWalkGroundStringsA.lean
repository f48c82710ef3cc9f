/- What the functions that GroundStrings reaches compute: contracts, each function once. No condition. -/
import Derived.Test.YtepdfhjmngbhhaaGreatDoorLayB
import Derived.Test.YtepdfhjmngbhhaaGreatDoorAwAGroundStrings
import Derived.Test.YtepdfhjmngbhhaaGreatDoorItAcGroundStrings
import Derived.Test.YtepdfhjmngbhhaaGreatDoorLayC
import Derived.KernelRfl
namespace Go.Proofs.YtepdfhjmngbhhaaGreatDoor
open Go Go.Mx
set_option maxRecDepth 100000
set_option maxHeartbeats 4000000
abbrev gF:=List Int
abbrev gG:=Int×Int
abbrev gA:=List (List Int×List Int)
abbrev gB:=List (Int×Int×Int)
abbrev gC:=List (Int×Int)
abbrev gE:=Int×List Int
abbrev gD:=(Int×List Int)×(Int×List Int)
abbrev tQA:=(Int×Int)
abbrev tQB:=(Int×tQA)
theorem fM.{u} {α:Type u} {p:α→Prop} {a:α} {l:List α}:(∀ x∈a::l,p x) ↔ p a ∧ ∀ x∈l,p x := List.forall_mem_cons
theorem cC {P:Program} {f:FuncId} {ids:List FuncId} {c:Con} {C:Cons} (h:ConOk P f c) (hC:ConsOk P C) (hm:isMark ids=false := by rfl):ConsOk P ((f,ids,c)::C) := ConsOk.cons h hC hm
theorem okG {P:Program} {f:FuncId} {F:TFn} {A:Nat→Ty} {C:Cons} {ps rs:List PSh} {pre:(tyPs ps).den→List Prop} {s:(tyPs ps).den→(tyPs rs).den} (k:callable P f=true) (e:cFn P f=some F.erase) (hC:ConsOk P C) (h:∀ x,(∀ p∈pre x,p)→Tf F A C ps rs x (fun z => z=s x)):ConOk P f ⟨ps,rs,pre,s⟩ := ⟨k,fun x hx => ret_tf e hC (h x hx)⟩
abbrev wi (n:Int):Int := IntKind.i64.wrap n
abbrev zz0:Int := 0
abbrev zz1:Int := 1
abbrev zz2:Int := 2
abbrev zz3:Int := 3
theorem od {p:Prop} [Decidable p] (h:decide p = true):p := of_decide_eq_true h
theorem nof {p:Prop} (h:false = true):p := Bool.noConfusion h
theorem rf {p:Prop} {α:Sort _} {a:α} (_:p):a = a := rfl
def C_Zy:Cons := []
theorem hC_Zy:ConsOk Tryz.prog C_Zy := ConsOk.nil
def w_Zy (p0:gC) (K:Bool→Prop):Prop := (K (decide ((p0.length:Int)≤6)))
theorem w_Zy_eq (p0:gC) (K:Bool→Prop):tfn F_Zy A_Zy C_Zy P_Zy R_Zy p0 K = w_Zy p0 K := by kernel_rfl
def s_Zy (p0:gC):Bool := (decide ((p0.length:Int)≤6))
abbrev pre_Zy (_p0:gC):List Prop := []
theorem d_Zy (p0:gC) (K:Bool→Prop) (_hp:∀ p∈pre_Zy p0,p) (h:K (s_Zy p0)):w_Zy p0 K := by
 unfold w_Zy
 unfold s_Zy at h
 exact h
abbrev con_Zy:Con := ⟨P_Zy,R_Zy,fun x => pre_Zy x,fun x => s_Zy x⟩
theorem ok_Zy:ConOk Tryz.prog 22 con_Zy := okG k_Zy e_Zy hC_Zy fun x hx => tf_of (w_Zy_eq x _) (d_Zy x _ hx rfl)
def C_Zz:Cons := []
theorem hC_Zz:ConsOk Tryz.prog C_Zz := ConsOk.nil
def w_Zz (p0:gB) (K:Bool→Prop):Prop := (K (decide ((p0.length:Int)≤8)))
theorem w_Zz_eq (p0:gB) (K:Bool→Prop):tfn F_Zz A_Zz C_Zz P_Zz R_Zz p0 K = w_Zz p0 K := by kernel_rfl
def s_Zz (p0:gB):Bool := (decide ((p0.length:Int)≤8))
abbrev pre_Zz (_p0:gB):List Prop := []
theorem d_Zz (p0:gB) (K:Bool→Prop) (_hp:∀ p∈pre_Zz p0,p) (h:K (s_Zz p0)):w_Zz p0 K := by
 unfold w_Zz
 unfold s_Zz at h
 exact h
abbrev con_Zz:Con := ⟨P_Zz,R_Zz,fun x => pre_Zz x,fun x => s_Zz x⟩
theorem ok_Zz:ConOk Tryz.prog 23 con_Zz := okG k_Zz e_Zz hC_Zz fun x hx => tf_of (w_Zz_eq x _) (d_Zz x _ hx rfl)
def C_Z13:Cons := []
theorem hC_Z13:ConsOk Tryz.prog C_Z13 := ConsOk.nil
def w_Z13 (p0:gC) (K:(List tQA)→Prop):Prop := (((((List.length ([]:List tQA)) + p0.length) * 16)≤140737488355328) ∧(K (([]:List tQA) ++ p0)))
theorem w_Z13_eq (p0:gC) (K:(List tQA)→Prop):tfnA F_Z13 A_Z13 C_Z13 P_Z13 E_Z13 p0 K = w_Z13 p0 K := by kernel_rfl
def s_Z13 (p0:gC):(List tQA) := (([]:List tQA) ++ p0)
abbrev pre_Z13 (p0:gC):List Prop := [((((List.length ([]:List tQA)) + p0.length) * 16)≤140737488355328)]
theorem d_Z13 (p0:gC) (K:(List tQA)→Prop) (hp:∀ p∈pre_Z13 p0,p) (h:K (s_Z13 p0)):w_Z13 p0 K := by
 unfold w_Z13
 unfold s_Z13 at h
 obtain ⟨hp0,_⟩ := conj_of hp
 exact ⟨(hp0),h⟩
abbrev con_Z13:Con := ⟨P_Z13,[.agg (.sl E_Z13)],fun x => pre_Z13 x,fun x => s_Z13 x⟩
theorem ok_Z13:ConOOk Tryz.prog 25 con_Z13 := conA_tf (e := E_Z13) (ps := P_Z13) k_Z13 e_Z13 hC_Z13 (fun x hx => tfa_of (w_Z13_eq x (fun z => z = s_Z13 x)) (d_Z13 x (fun z => z = s_Z13 x) hx rfl))
abbrev con_Z16:Con := ⟨P_Z16,R_Z16,fun x => [-9223372036854775808≤x,x≤9223372036854775807],fun x => v_itoa x⟩
theorem ok_Z16:ConOk Tryz.prog 95 con_Z16 := ⟨k_Z16,fun x hx => by
 obtain ⟨h1,h2,_⟩ := conj_of hx
 exact ret_itoa Tryz.laysM171 (g := 4) (by kernel_rfl) rfl x h1 h2⟩
abbrev con_Z17:Con := ⟨P_Z17,R_Z17,fun x => [x.1.length≤140737488355328,(v_join x.1 x.2).size≤140737488355328],fun x => v_join x.1 x.2⟩
theorem ok_Z17:ConOk Tryz.prog 79 con_Z17 := ⟨k_Z17,fun x hx => by
 obtain ⟨h1,h2,_⟩ := conj_of hx
 exact ret_join Tryz.lays156 Tryz.Builder_Extra_156 x.1 x.2 false h1 h2⟩
def C_Zm:Cons := [(95,[],con_Z16),(79,[],con_Z17)]
theorem hC_Zm:ConsOk Tryz.prog C_Zm := cC ok_Z16 <| cC ok_Z17 <| ConsOk.nil
def w_Zm (p0:gC) (K:ByteArray→Prop):Prop := (∃ n0,(loopP (fun (y1:(Int×(List ByteArray))) k2 => ((((decide (y1.1 < (p0.length:Int)))=true) →((zz0≤y1.1) ∧((y1.1 < (p0.length:Int)) ∧(((-9223372036854775808:Int)≤(p0.getD y1.1.toNat (zz0,zz0)).1) ∧(((p0.getD y1.1.toNat (zz0,zz0)).1≤9223372036854775807) ∧((((((ByteArray.size (v_itoa (p0.getD y1.1.toNat (zz0,zz0)).1)):Nat):Int) + (((ByteArray.size (⟨#[120]⟩ : ByteArray)):Nat):Int))≤9223372036854775807) ∧(((-9223372036854775808:Int)≤(p0.getD y1.1.toNat (zz0,zz0)).2) ∧(((p0.getD y1.1.toNat (zz0,zz0)).2≤9223372036854775807) ∧((((((ByteArray.size (v_scat (v_itoa (p0.getD y1.1.toNat (zz0,zz0)).1) (⟨#[120]⟩ : ByteArray))):Nat):Int) + (((ByteArray.size (v_itoa (p0.getD y1.1.toNat (zz0,zz0)).2)):Nat):Int))≤9223372036854775807) ∧((((y1.2.length + (List.length ((v_scat (v_scat (v_itoa (p0.getD y1.1.toNat (zz0,zz0)).1) (⟨#[120]⟩ : ByteArray)) (v_itoa (p0.getD y1.1.toNat (zz0,zz0)).2)) :: ([]:List ByteArray)))) * 16)≤140737488355328) ∧(k2 ((IntKind.i64.wrap (y1.1 + 1)),(y1.2 ++ ((v_scat (v_scat (v_itoa (p0.getD y1.1.toNat (zz0,zz0)).1) (⟨#[120]⟩ : ByteArray)) (v_itoa (p0.getD y1.1.toNat (zz0,zz0)).2)) :: ([]:List ByteArray))))))))))))))) ∧(((decide (y1.1 < (p0.length:Int)))=false) →((y1.2.length≤140737488355328) ∧(((ByteArray.size (v_join y1.2 (⟨#[32]⟩ : ByteArray)))≤140737488355328) ∧(K (v_join y1.2 (⟨#[32]⟩ : ByteArray)))))))) n0 (zz0,([]:List ByteArray))))
theorem w_Zm_eq (p0:gC) (K:ByteArray→Prop):tfn F_Zm A_Zm C_Zm P_Zm R_Zm p0 K = w_Zm p0 K := by kernel_rfl
def st_Zm_0 (p0:gC) (y0:(Int×(List ByteArray))):(Int×(List ByteArray)) ⊕ ByteArray := (cond (decide (y0.1 < (p0.length:Int))) (Sum.inl ((IntKind.i64.wrap (y0.1 + 1)),(y0.2 ++ ((v_scat (v_scat (v_itoa (p0.getD y0.1.toNat (0,0)).1) (⟨#[120]⟩ : ByteArray)) (v_itoa (p0.getD y0.1.toNat (0,0)).2)) :: ([]:List ByteArray))))) (Sum.inr (v_join y0.2 (⟨#[32]⟩ : ByteArray))))
abbrev sp_Zm_0 (p0:gC) (y0:(Int×(List ByteArray))):List Prop := [(((decide (y0.1 < (p0.length:Int)))=true)→((0:Int)≤y0.1)),(((decide (y0.1 < (p0.length:Int)))=true)→(y0.1 < (p0.length:Int))),(((decide (y0.1 < (p0.length:Int)))=true)→((-9223372036854775808:Int)≤(p0.getD y0.1.toNat (0,0)).1)),(((decide (y0.1 < (p0.length:Int)))=true)→((p0.getD y0.1.toNat (0,0)).1≤9223372036854775807)),(((decide (y0.1 < (p0.length:Int)))=true)→(((((ByteArray.size (v_itoa (p0.getD y0.1.toNat (0,0)).1)):Nat):Int) + (((ByteArray.size (⟨#[120]⟩ : ByteArray)):Nat):Int))≤9223372036854775807)),(((decide (y0.1 < (p0.length:Int)))=true)→((-9223372036854775808:Int)≤(p0.getD y0.1.toNat (0,0)).2)),(((decide (y0.1 < (p0.length:Int)))=true)→((p0.getD y0.1.toNat (0,0)).2≤9223372036854775807)),(((decide (y0.1 < (p0.length:Int)))=true)→(((((ByteArray.size (v_scat (v_itoa (p0.getD y0.1.toNat (0,0)).1) (⟨#[120]⟩ : ByteArray))):Nat):Int) + (((ByteArray.size (v_itoa (p0.getD y0.1.toNat (0,0)).2)):Nat):Int))≤9223372036854775807)),(((decide (y0.1 < (p0.length:Int)))=true)→(((y0.2.length + (List.length ((v_scat (v_scat (v_itoa (p0.getD y0.1.toNat (0,0)).1) (⟨#[120]⟩ : ByteArray)) (v_itoa (p0.getD y0.1.toNat (0,0)).2)) :: ([]:List ByteArray)))) * 16)≤140737488355328)),(((decide (y0.1 < (p0.length:Int)))=false)→(y0.2.length≤140737488355328)),(((decide (y0.1 < (p0.length:Int)))=false)→((ByteArray.size (v_join y0.2 (⟨#[32]⟩ : ByteArray)))≤140737488355328))]
def s_Zm (p0:gC):ByteArray := (lpv (⟨#[]⟩ : ByteArray) (st_Zm_0 p0) ((0:Int),([]:List ByteArray)))
abbrev pre_Zm (p0:gC):List Prop := [(OkL (st_Zm_0 p0) (sp_Zm_0 p0) ((0:Int),([]:List ByteArray)))]
theorem d_Zm (p0:gC) (K:ByteArray→Prop) (hp:∀ p∈pre_Zm p0,p) (h:K (s_Zm p0)):w_Zm p0 K := by
 unfold w_Zm
 unfold s_Zm at h
 obtain ⟨hp0,_⟩ := conj_of hp
 exact (loop_gen (hp0) h (fun y0 k0 hp h => by
 unfold st_Zm_0 at h; obtain ⟨hp0,hp1,hp2,hp3,hp4,hp5,hp6,hp7,hp8,hp9,hp10,_⟩ := conj_of hp
 exact (br' h (fun e1 h => ⟨(hp0 e1),(hp1 e1),(hp2 e1),(hp3 e1),(hp4 e1),(hp5 e1),(hp6 e1),(hp7 e1),(hp8 e1),h⟩)
  (fun e1 h => ⟨(hp9 e1),(hp10 e1),h⟩))))
theorem l_Zm_0 (p0:gC) (hl:p0.length≤1000) (h:∀ x∈p0,v_in64 x.1∧v_in64 x.2):OkL (st_Zm_0 p0) (sp_Zm_0 p0) (0,[])∧lpv ⟨#[]⟩ (st_Zm_0 p0) (0,[])=v_fmt v_fwx p0 := by
 refine join_is (0,0) v_fwx hl (fun x hx => v_fwx_size (h x hx).1 (h x hx).2) (fun y => ?_) (fun j o hj ho hz hm => ?_)
 ·unfold st_Zm_0 v_fwx
  rfl
 ·have b1 := fun (hj:j < p0.length) => h _ (hm hj)
  unfold sp_Zm_0
  simp only [fM,decide_eq_true_eq,decide_eq_false_iff_not,v_scat_size,Int.toNat_natCast,List.length_cons,List.length_nil]
  have q1:∀ n:Int,v_in64 n→-9223372036854775808≤n := fun _ h => h.1
  have q2:∀ n:Int,v_in64 n→n≤9223372036854775807 := fun _ h => h.2
  have c2:(⟨#[120]⟩ : ByteArray).size = 1 := rfl
  have c3:(⟨#[58]⟩ : ByteArray).size = 1 := rfl
  have c4:(⟨#[44]⟩ : ByteArray).size = 1 := rfl
  rw [c2]
  by_cases hjl:j < p0.length
  ·have b := b1 hjl
   generalize p0.getD j (0,0)=x at b ⊢
   obtain ⟨a1,a2⟩ := b
   have z1 := v_itoa_len' a1
   have z2 := v_itoa_len' a2
   
   and_intros
   all_goals first | (intros; omega) | (intros; exact q1 _ ‹_›) | (intros; exact q2 _ ‹_›) | (simp; done)
  ·and_intros
   all_goals first | (intros; omega) | (simp; done)
abbrev t_Zm (p0:gC):ByteArray := v_fmt v_fwx p0
abbrev qre_Zm (p0:gC):List Prop := [p0.length≤1000,v_fmok p0]
theorem pp_Zm (p0:gC) (hq:∀ p∈qre_Zm p0,p):∀ p∈pre_Zm p0,p := by
 obtain ⟨h1,h2,_⟩ := conj_of hq
 simp only [pre_Zm,fM]
 exact ⟨(l_Zm_0 p0 h1 h2).1,by simp⟩
theorem tt_Zm (p0:gC) (hq:∀ p∈qre_Zm p0,p):s_Zm p0 = t_Zm p0 := by
 obtain ⟨h1,h2,_⟩ := conj_of hq
 exact (l_Zm_0 p0 h1 h2).2

abbrev con_Zm:Con := ⟨P_Zm,R_Zm,fun x => qre_Zm x,fun x => t_Zm x⟩
theorem ok_Zm:ConOk Tryz.prog 24 con_Zm := okG k_Zm e_Zm hC_Zm fun x hx => tf_of (w_Zm_eq x _) (d_Zm x _ (pp_Zm x hx) (tt_Zm x hx))
def C_Z14:Cons := []
theorem hC_Z14:ConsOk Tryz.prog C_Z14 := ConsOk.nil
def w_Z14 (p0:gB) (K:(List tQB)→Prop):Prop := (((((List.length ([]:List tQB)) + p0.length) * 24)≤140737488355328) ∧(K (([]:List tQB) ++ p0)))
theorem w_Z14_eq (p0:gB) (K:(List tQB)→Prop):tfnO F_Z14 A_Z14 C_Z14 P_Z14 E_Z14 p0 K = w_Z14 p0 K := by kernel_rfl
def s_Z14 (p0:gB):(List tQB) := (([]:List tQB) ++ p0)
abbrev pre_Z14 (p0:gB):List Prop := [((((List.length ([]:List tQB)) + p0.length) * 24)≤140737488355328)]
theorem d_Z14 (p0:gB) (K:(List tQB)→Prop) (hp:∀ p∈pre_Z14 p0,p) (h:K (s_Z14 p0)):w_Z14 p0 K := by
 unfold w_Z14
 unfold s_Z14 at h
 obtain ⟨hp0,_⟩ := conj_of hp
 exact ⟨(hp0),h⟩
abbrev con_Z14:Con := ⟨P_Z14,[.one (.sl E_Z14)],fun x => pre_Z14 x,fun x => s_Z14 x⟩
theorem ok_Z14:ConOOk Tryz.prog 27 con_Z14 := conO_tf (e := E_Z14) (ps := P_Z14) k_Z14 e_Z14 hC_Z14 (fun x hx => tfo_of (w_Z14_eq x (fun z => z = s_Z14 x)) (d_Z14 x (fun z => z = s_Z14 x) hx rfl))
def C_Ze:Cons := [(95,[],con_Z16),(79,[],con_Z17)]
theorem hC_Ze:ConsOk Tryz.prog C_Ze := cC ok_Z16 <| cC ok_Z17 <| ConsOk.nil
abbrev q0_Ze (p0:gB) (y1:(Int×(List ByteArray))) := (p0.getD y1.1.toNat (zz0,(zz0,zz0)))
abbrev q1_Ze (p0:gB) (y1:(Int×(List ByteArray))) := (v_scat (v_scat (v_itoa (q0_Ze p0 y1).1) (⟨#[58]⟩ : ByteArray)) (v_itoa (q0_Ze p0 y1).2.1))
def w_Ze (p0:gB) (K:ByteArray→Prop):Prop := (∃ n0,(loopP (fun (y1:(Int×(List ByteArray))) k2 => ((((decide (y1.1 < (p0.length:Int)))=true) →((zz0≤y1.1) ∧((y1.1 < (p0.length:Int)) ∧(((-9223372036854775808:Int)≤(q0_Ze p0 y1).1) ∧(((q0_Ze p0 y1).1≤9223372036854775807) ∧((((((ByteArray.size (v_itoa (q0_Ze p0 y1).1)):Nat):Int) + (((ByteArray.size (⟨#[58]⟩ : ByteArray)):Nat):Int))≤9223372036854775807) ∧(((-9223372036854775808:Int)≤(q0_Ze p0 y1).2.1) ∧(((q0_Ze p0 y1).2.1≤9223372036854775807) ∧((((((ByteArray.size (v_scat (v_itoa (q0_Ze p0 y1).1) (⟨#[58]⟩ : ByteArray))):Nat):Int) + (((ByteArray.size (v_itoa (q0_Ze p0 y1).2.1)):Nat):Int))≤9223372036854775807) ∧((((((ByteArray.size (q1_Ze p0 y1)):Nat):Int) + (((ByteArray.size (⟨#[44]⟩ : ByteArray)):Nat):Int))≤9223372036854775807) ∧(((-9223372036854775808:Int)≤(q0_Ze p0 y1).2.2) ∧(((q0_Ze p0 y1).2.2≤9223372036854775807) ∧((((((ByteArray.size (v_scat (q1_Ze p0 y1) (⟨#[44]⟩ : ByteArray))):Nat):Int) + (((ByteArray.size (v_itoa (q0_Ze p0 y1).2.2)):Nat):Int))≤9223372036854775807) ∧((((y1.2.length + (List.length ((v_scat (v_scat (q1_Ze p0 y1) (⟨#[44]⟩ : ByteArray)) (v_itoa (q0_Ze p0 y1).2.2)) :: ([]:List ByteArray)))) * 16)≤140737488355328) ∧(k2 ((wi (y1.1 + zz1)),(y1.2 ++ ((v_scat (v_scat (q1_Ze p0 y1) (⟨#[44]⟩ : ByteArray)) (v_itoa (q0_Ze p0 y1).2.2)) :: ([]:List ByteArray))))))))))))))))))) ∧(((decide (y1.1 < (p0.length:Int)))=false) →((y1.2.length≤140737488355328) ∧(((ByteArray.size (v_join y1.2 (⟨#[32]⟩ : ByteArray)))≤140737488355328) ∧(K (v_join y1.2 (⟨#[32]⟩ : ByteArray)))))))) n0 (zz0,([]:List ByteArray))))
theorem w_Ze_eq (p0:gB) (K:ByteArray→Prop):tfn F_Ze A_Ze C_Ze P_Ze R_Ze p0 K = w_Ze p0 K := by kernel_rfl
def st_Ze_0 (p0:gB) (y0:(Int×(List ByteArray))):(Int×(List ByteArray)) ⊕ ByteArray := (cond (decide (y0.1 < (p0.length:Int))) (Sum.inl ((IntKind.i64.wrap (y0.1 + 1)),(y0.2 ++ ((v_scat (v_scat (v_scat (v_scat (v_itoa (p0.getD y0.1.toNat ((0:Int),(0,0))).1) (⟨#[58]⟩ : ByteArray)) (v_itoa (p0.getD y0.1.toNat ((0:Int),(0,0))).2.1)) (⟨#[44]⟩ : ByteArray)) (v_itoa (p0.getD y0.1.toNat ((0:Int),(0,0))).2.2)) :: ([]:List ByteArray))))) (Sum.inr (v_join y0.2 (⟨#[32]⟩ : ByteArray))))
abbrev sp_Ze_0 (p0:gB) (y0:(Int×(List ByteArray))):List Prop := [(((decide (y0.1 < (p0.length:Int)))=true)→((0:Int)≤y0.1)),(((decide (y0.1 < (p0.length:Int)))=true)→(y0.1 < (p0.length:Int))),(((decide (y0.1 < (p0.length:Int)))=true)→((-9223372036854775808:Int)≤(p0.getD y0.1.toNat ((0:Int),(0,0))).1)),(((decide (y0.1 < (p0.length:Int)))=true)→((p0.getD y0.1.toNat ((0:Int),(0,0))).1≤9223372036854775807)),(((decide (y0.1 < (p0.length:Int)))=true)→(((((ByteArray.size (v_itoa (p0.getD y0.1.toNat ((0:Int),(0,0))).1)):Nat):Int) + (((ByteArray.size (⟨#[58]⟩ : ByteArray)):Nat):Int))≤9223372036854775807)),(((decide (y0.1 < (p0.length:Int)))=true)→((-9223372036854775808:Int)≤(p0.getD y0.1.toNat ((0:Int),(0,0))).2.1)),(((decide (y0.1 < (p0.length:Int)))=true)→((p0.getD y0.1.toNat ((0:Int),(0,0))).2.1≤9223372036854775807)),(((decide (y0.1 < (p0.length:Int)))=true)→(((((ByteArray.size (v_scat (v_itoa (p0.getD y0.1.toNat ((0:Int),(0,0))).1) (⟨#[58]⟩ : ByteArray))):Nat):Int) + (((ByteArray.size (v_itoa (p0.getD y0.1.toNat ((0:Int),(0,0))).2.1)):Nat):Int))≤9223372036854775807)),(((decide (y0.1 < (p0.length:Int)))=true)→(((((ByteArray.size (v_scat (v_scat (v_itoa (p0.getD y0.1.toNat ((0:Int),(0,0))).1) (⟨#[58]⟩ : ByteArray)) (v_itoa (p0.getD y0.1.toNat ((0:Int),(0,0))).2.1))):Nat):Int) + (((ByteArray.size (⟨#[44]⟩ : ByteArray)):Nat):Int))≤9223372036854775807)),(((decide (y0.1 < (p0.length:Int)))=true)→((-9223372036854775808:Int)≤(p0.getD y0.1.toNat ((0:Int),(0,0))).2.2)),(((decide (y0.1 < (p0.length:Int)))=true)→((p0.getD y0.1.toNat ((0:Int),(0,0))).2.2≤9223372036854775807)),(((decide (y0.1 < (p0.length:Int)))=true)→(((((ByteArray.size (v_scat (v_scat (v_scat (v_itoa (p0.getD y0.1.toNat ((0:Int),(0,0))).1) (⟨#[58]⟩ : ByteArray)) (v_itoa (p0.getD y0.1.toNat ((0:Int),(0,0))).2.1)) (⟨#[44]⟩ : ByteArray))):Nat):Int) + (((ByteArray.size (v_itoa (p0.getD y0.1.toNat ((0:Int),(0,0))).2.2)):Nat):Int))≤9223372036854775807)),(((decide (y0.1 < (p0.length:Int)))=true)→(((y0.2.length + (List.length ((v_scat (v_scat (v_scat (v_scat (v_itoa (p0.getD y0.1.toNat ((0:Int),(0,0))).1) (⟨#[58]⟩ : ByteArray)) (v_itoa (p0.getD y0.1.toNat ((0:Int),(0,0))).2.1)) (⟨#[44]⟩ : ByteArray)) (v_itoa (p0.getD y0.1.toNat ((0:Int),(0,0))).2.2)) :: ([]:List ByteArray)))) * 16)≤140737488355328)),(((decide (y0.1 < (p0.length:Int)))=false)→(y0.2.length≤140737488355328)),(((decide (y0.1 < (p0.length:Int)))=false)→((ByteArray.size (v_join y0.2 (⟨#[32]⟩ : ByteArray)))≤140737488355328))]
def s_Ze (p0:gB):ByteArray := (lpv (⟨#[]⟩ : ByteArray) (st_Ze_0 p0) ((0:Int),([]:List ByteArray)))
abbrev pre_Ze (p0:gB):List Prop := [(OkL (st_Ze_0 p0) (sp_Ze_0 p0) ((0:Int),([]:List ByteArray)))]
theorem d_Ze (p0:gB) (K:ByteArray→Prop) (hp:∀ p∈pre_Ze p0,p) (h:K (s_Ze p0)):w_Ze p0 K := by
 unfold w_Ze
 unfold s_Ze at h
 obtain ⟨hp0,_⟩ := conj_of hp
 exact (loop_gen (hp0) h (fun y0 k0 hp h => by
 unfold st_Ze_0 at h; obtain ⟨hp0,hp1,hp2,hp3,hp4,hp5,hp6,hp7,hp8,hp9,hp10,hp11,hp12,hp13,hp14,_⟩ := conj_of hp
 exact (br' h (fun e1 h => ⟨(hp0 e1),(hp1 e1),(hp2 e1),(hp3 e1),(hp4 e1),(hp5 e1),(hp6 e1),(hp7 e1),(hp8 e1),(hp9 e1),(hp10 e1),(hp11 e1),(hp12 e1),h⟩)
  (fun e1 h => ⟨(hp13 e1),(hp14 e1),h⟩))))
theorem l_Ze_0 (p0:gB) (hl:p0.length≤1000) (h:∀ x∈p0,v_in64 x.1∧v_in64 x.2.1∧v_in64 x.2.2):OkL (st_Ze_0 p0) (sp_Ze_0 p0) (0,[])∧lpv ⟨#[]⟩ (st_Ze_0 p0) (0,[])=v_fmt v_fwd p0 := by
 refine join_is (0,0,0) v_fwd hl (fun x hx => v_fwd_size (h x hx).1 (h x hx).2.1 (h x hx).2.2) (fun y => ?_) (fun j o hj ho hz hm => ?_)
 ·unfold st_Ze_0 v_fwd
  rfl
 ·have b1 := fun (hj:j < p0.length) => h _ (hm hj)
  unfold sp_Ze_0
  simp only [fM,decide_eq_true_eq,decide_eq_false_iff_not,v_scat_size,Int.toNat_natCast,List.length_cons,List.length_nil]
  have q1:∀ n:Int,v_in64 n→-9223372036854775808≤n := fun _ h => h.1
  have q2:∀ n:Int,v_in64 n→n≤9223372036854775807 := fun _ h => h.2
  have c2:(⟨#[120]⟩ : ByteArray).size = 1 := rfl
  have c3:(⟨#[58]⟩ : ByteArray).size = 1 := rfl
  have c4:(⟨#[44]⟩ : ByteArray).size = 1 := rfl
  rw [c3,c4]
  by_cases hjl:j < p0.length
  ·have b := b1 hjl
   generalize p0.getD j (0,0,0)=x at b ⊢
   obtain ⟨a1,a2,a3⟩ := b
   have z1 := v_itoa_len' a1
   have z2 := v_itoa_len' a2
   have z3 := v_itoa_len' a3
   and_intros
   all_goals first | (intros; omega) | (intros; exact q1 _ ‹_›) | (intros; exact q2 _ ‹_›) | (simp; done)
  ·and_intros
   all_goals first | (intros; omega) | (simp; done)
abbrev t_Ze (p0:gB):ByteArray := v_fmt v_fwd p0
abbrev qre_Ze (p0:gB):List Prop := [p0.length≤1000,v_fdok p0]
theorem pp_Ze (p0:gB) (hq:∀ p∈qre_Ze p0,p):∀ p∈pre_Ze p0,p := by
 obtain ⟨h1,h2,_⟩ := conj_of hq
 simp only [pre_Ze,fM]
 exact ⟨(l_Ze_0 p0 h1 h2).1,by simp⟩
theorem tt_Ze (p0:gB) (hq:∀ p∈qre_Ze p0,p):s_Ze p0 = t_Ze p0 := by
 obtain ⟨h1,h2,_⟩ := conj_of hq
 exact (l_Ze_0 p0 h1 h2).2

abbrev con_Ze:Con := ⟨P_Ze,R_Ze,fun x => qre_Ze x,fun x => t_Ze x⟩
theorem ok_Ze:ConOk Tryz.prog 26 con_Ze := okG k_Ze e_Ze hC_Ze fun x hx => tf_of (w_Ze_eq x _) (d_Ze x _ (pp_Ze x hx) (tt_Ze x hx))
abbrev con_Z18:Con := ⟨P_Z18,R_Z18,fun x => [x.1.size≤4611686018427387904,x.2.size = 1],fun x => v_pcs x.1 x.2⟩
theorem ok_Z18:ConIOk Tryz.prog 96 con_Z18 := by
 intro x hx
 obtain ⟨h1,h2,_⟩ := conj_of hx
 obtain ⟨s,⟨⟨l⟩⟩⟩ := x
 obtain ⟨b,rfl⟩ := List.length_eq_one_iff.1 (show l.length = 1 from h2)
 exact iterC_splitSeq s b h1
abbrev con_Z1a:Con := ⟨P_Z1a,R_Z1a,fun x => [x.1.size < 4294967281],fun x => v_cut x.1 x.2⟩
theorem ok_Z1a:ConOk Tryz.prog 153 con_Z1a := ⟨k_Z1a,fun x hx => by
 obtain ⟨h1,_⟩ := conj_of hx
 exact ret_cut Tryz.lays145 rfl x.1 x.2 h1⟩
def v_atn' (s:ByteArray):Int := v_atn s.data.toList
def v_ate' (s:ByteArray):Bool := v_ate s.data.toList
abbrev con_Z19:Con := ⟨P_Z19,R_Z19,fun x => [x.size≤281474976710656],fun x => (v_atn' x,v_ate' x)⟩
theorem ok_Z19:ConOk Tryz.prog 141 con_Z19 := ⟨k_Z19,fun x hx => by
 obtain ⟨h1,_⟩ := conj_of hx
 exact ret_atoi Tryz.laysC172 (g1 := 2) (g2 := 3) (by kernel_rfl) rfl (by kernel_rfl) rfl x h1⟩
def C_Z2:Cons := [(153,[],con_Z1a),(141,[],con_Z19),(95,[],con_Z16)]
theorem hC_Z2:ConsOk Tryz.prog C_Z2 := cC ok_Z1a <| cC ok_Z19 <| cC ok_Z16 <| ConsOk.nil
abbrev q0_Z2 (p1:(List ByteArray)) (y1:(Int×((List Int)×ByteArray))) := (v_cut y1.2.2 (List.getD (p1 ++ ((⟨#[]⟩ : ByteArray) :: ([]:List ByteArray))) y1.1.toNat (⟨#[]⟩ : ByteArray)))
abbrev q1_Z2 (p1:(List ByteArray)) (y1:(Int×((List Int)×ByteArray))) := (cond (cond (!(q0_Z2 p1 y1).2.2) true (!(v_ate' (q0_Z2 p1 y1).1))) true (decide ((v_atn' (q0_Z2 p1 y1).1) < zz0)))
abbrev q4_Z2 (y1:(Int×((List Int)×ByteArray))) := (cond (!(v_ate' y1.2.2)) true (decide ((v_atn' y1.2.2) < zz0)))
abbrev q2_Z2 (y1:(Int×((List Int)×ByteArray))) := (cond (q4_Z2 y1) true (!(v_seq (v_itoa (v_atn' y1.2.2)) y1.2.2)))
abbrev q3_Z2 (p1:(List ByteArray)) (y1:(Int×((List Int)×ByteArray))) := (cond (q1_Z2 p1 y1) true (!(v_seq (v_itoa (v_atn' (q0_Z2 p1 y1).1)) (q0_Z2 p1 y1).1)))
def w_Z2 (p0:ByteArray) (p1:(List ByteArray)) (K:((List Int)×Bool)→Prop):Prop := ((((p1.length + (List.length ((⟨#[]⟩ : ByteArray) :: ([]:List ByteArray)))) * 16)≤140737488355328) ∧((0 < (List.length ((⟨#[]⟩ : ByteArray) :: ([]:List ByteArray)))) ∧(∃ n0,(loopP (fun (y1:(Int×((List Int)×ByteArray))) k2 => ((((decide (y1.1 < (((List.length (p1 ++ ((⟨#[]⟩ : ByteArray) :: ([]:List ByteArray)))):Nat):Int)))=true) →((zz0≤y1.1) ∧((y1.1 < (((List.length (p1 ++ ((⟨#[]⟩ : ByteArray) :: ([]:List ByteArray)))):Nat):Int)) ∧((((!(v_seq (List.getD (p1 ++ ((⟨#[]⟩ : ByteArray) :: ([]:List ByteArray))) y1.1.toNat (⟨#[]⟩ : ByteArray)) (⟨#[]⟩ : ByteArray)))=true) →(((ByteArray.size y1.2.2) < 4294967281) ∧(((ByteArray.size (q0_Z2 p1 y1).1)≤281474976710656) ∧((((!(q0_Z2 p1 y1).2.2)=false) →((!(q0_Z2 p1 y1).2.2)=(!(q0_Z2 p1 y1).2.2))) ∧(((!(q0_Z2 p1 y1).2.2)=(!(q0_Z2 p1 y1).2.2)) ∧((((cond (!(q0_Z2 p1 y1).2.2) true (!(v_ate' (q0_Z2 p1 y1).1)))=false) →((cond (!(q0_Z2 p1 y1).2.2) true (!(v_ate' (q0_Z2 p1 y1).1)))=(cond (!(q0_Z2 p1 y1).2.2) true (!(v_ate' (q0_Z2 p1 y1).1))))) ∧(((cond (!(q0_Z2 p1 y1).2.2) true (!(v_ate' (q0_Z2 p1 y1).1)))=(cond (!(q0_Z2 p1 y1).2.2) true (!(v_ate' (q0_Z2 p1 y1).1)))) ∧((((q1_Z2 p1 y1)=false) →((q1_Z2 p1 y1)=(q1_Z2 p1 y1))) ∧((((q1_Z2 p1 y1)=false) →((-9223372036854775808:Int)≤(v_atn' (q0_Z2 p1 y1).1))) ∧((((q1_Z2 p1 y1)=false) →((v_atn' (q0_Z2 p1 y1).1)≤9223372036854775807)) ∧((((q1_Z2 p1 y1)=false) →((q1_Z2 p1 y1)=(q1_Z2 p1 y1))) ∧((((q1_Z2 p1 y1)=false) →((q1_Z2 p1 y1)=(q1_Z2 p1 y1))) ∧(((q1_Z2 p1 y1)=(q1_Z2 p1 y1)) ∧((((q3_Z2 p1 y1)=false) →((q3_Z2 p1 y1)=(q3_Z2 p1 y1))) ∧((((q3_Z2 p1 y1)=false) →((q3_Z2 p1 y1)=(q3_Z2 p1 y1))) ∧(((q3_Z2 p1 y1)=(q3_Z2 p1 y1)) ∧((((cond (q3_Z2 p1 y1) true (decide ((((ByteArray.size (q0_Z2 p1 y1).1):Nat):Int) > 6)))=true) →(K (([]:List Int),false))) ∧(((cond (q3_Z2 p1 y1) true (decide ((((ByteArray.size (q0_Z2 p1 y1).1):Nat):Int) > 6)))=false) →((((y1.2.1.length + (List.length ((v_atn' (q0_Z2 p1 y1).1) :: ([]:List Int)))) * 8)≤140737488355328) ∧(k2 ((wi (y1.1 + zz1)),((y1.2.1 ++ ((v_atn' (q0_Z2 p1 y1).1) :: ([]:List Int))),(q0_Z2 p1 y1).2.1)))))))))))))))))))))) ∧(((!(v_seq (List.getD (p1 ++ ((⟨#[]⟩ : ByteArray) :: ([]:List ByteArray))) y1.1.toNat (⟨#[]⟩ : ByteArray)) (⟨#[]⟩ : ByteArray)))=false) →(((ByteArray.size y1.2.2)≤281474976710656) ∧((((!true)=false) →((!true)=(!true))) ∧((false = false) ∧((((!(v_ate' y1.2.2))=false) →((!(v_ate' y1.2.2))=(!(v_ate' y1.2.2)))) ∧(((!(v_ate' y1.2.2))=(!(v_ate' y1.2.2))) ∧((((q4_Z2 y1)=false) →((q4_Z2 y1)=(q4_Z2 y1))) ∧((((q4_Z2 y1)=false) →((-9223372036854775808:Int)≤(v_atn' y1.2.2))) ∧((((q4_Z2 y1)=false) →((v_atn' y1.2.2)≤9223372036854775807)) ∧((((q4_Z2 y1)=false) →((q4_Z2 y1)=(q4_Z2 y1))) ∧((((q4_Z2 y1)=false) →((q4_Z2 y1)=(q4_Z2 y1))) ∧(((q4_Z2 y1)=(q4_Z2 y1)) ∧((((q2_Z2 y1)=false) →((q2_Z2 y1)=(q2_Z2 y1))) ∧((((q2_Z2 y1)=false) →((q2_Z2 y1)=(q2_Z2 y1))) ∧(((q2_Z2 y1)=(q2_Z2 y1)) ∧((((cond (q2_Z2 y1) true (decide ((((ByteArray.size y1.2.2):Nat):Int) > 6)))=true) →(K (([]:List Int),false))) ∧(((cond (q2_Z2 y1) true (decide ((((ByteArray.size y1.2.2):Nat):Int) > 6)))=false) →((((y1.2.1.length + (List.length ((v_atn' y1.2.2) :: ([]:List Int)))) * 8)≤140737488355328) ∧(k2 ((wi (y1.1 + zz1)),((y1.2.1 ++ ((v_atn' y1.2.2) :: ([]:List Int))),(⟨#[]⟩ : ByteArray)))))))))))))))))))))))))) ∧(((decide (y1.1 < (((List.length (p1 ++ ((⟨#[]⟩ : ByteArray) :: ([]:List ByteArray)))):Nat):Int)))=false) →(K (y1.2.1,true))))) n0 (zz0,(([]:List Int),p0))))))
theorem w_Z2_eq (p0:ByteArray) (p1:(List ByteArray)) (K:((List Int)×Bool)→Prop):tfn F_Z2 A_Z2 C_Z2 P_Z2 R_Z2 (p0,p1) K = w_Z2 p0 p1 K := by kernel_rfl
def st_Z2_0 (_p0:ByteArray) (p1:(List ByteArray)) (y0:(Int×((List Int)×ByteArray))):(Int×((List Int)×ByteArray)) ⊕ ((List Int)×Bool) := (cond (decide (y0.1 < (((List.length (p1 ++ ((⟨#[]⟩ : ByteArray) :: ([]:List ByteArray)))):Nat):Int))) (cond (!(v_seq (List.getD (p1 ++ ((⟨#[]⟩ : ByteArray) :: ([]:List ByteArray))) y0.1.toNat (⟨#[]⟩ : ByteArray)) (⟨#[]⟩ : ByteArray))) (cond (cond (cond (cond (cond (!(v_cut y0.2.2 (List.getD (p1 ++ ((⟨#[]⟩ : ByteArray) :: ([]:List ByteArray))) y0.1.toNat (⟨#[]⟩ : ByteArray))).2.2) true (!(v_ate' (v_cut y0.2.2 (List.getD (p1 ++ ((⟨#[]⟩ : ByteArray) :: ([]:List ByteArray))) y0.1.toNat (⟨#[]⟩ : ByteArray))).1))) true (decide ((v_atn' (v_cut y0.2.2 (List.getD (p1 ++ ((⟨#[]⟩ : ByteArray) :: ([]:List ByteArray))) y0.1.toNat (⟨#[]⟩ : ByteArray))).1) < 0))) true (!(v_seq (v_itoa (v_atn' (v_cut y0.2.2 (List.getD (p1 ++ ((⟨#[]⟩ : ByteArray) :: ([]:List ByteArray))) y0.1.toNat (⟨#[]⟩ : ByteArray))).1)) (v_cut y0.2.2 (List.getD (p1 ++ ((⟨#[]⟩ : ByteArray) :: ([]:List ByteArray))) y0.1.toNat (⟨#[]⟩ : ByteArray))).1))) true (decide ((((ByteArray.size (v_cut y0.2.2 (List.getD (p1 ++ ((⟨#[]⟩ : ByteArray) :: ([]:List ByteArray))) y0.1.toNat (⟨#[]⟩ : ByteArray))).1):Nat):Int) > 6))) (Sum.inr (([]:List Int),false)) (Sum.inl ((IntKind.i64.wrap (y0.1 + 1)),((y0.2.1 ++ ((v_atn' (v_cut y0.2.2 (List.getD (p1 ++ ((⟨#[]⟩ : ByteArray) :: ([]:List ByteArray))) y0.1.toNat (⟨#[]⟩ : ByteArray))).1) :: ([]:List Int))),(v_cut y0.2.2 (List.getD (p1 ++ ((⟨#[]⟩ : ByteArray) :: ([]:List ByteArray))) y0.1.toNat (⟨#[]⟩ : ByteArray))).2.1)))) (cond (cond (cond (cond (!(v_ate' y0.2.2)) true (decide ((v_atn' y0.2.2) < 0))) true (!(v_seq (v_itoa (v_atn' y0.2.2)) y0.2.2))) true (decide ((((ByteArray.size y0.2.2):Nat):Int) > 6))) (Sum.inr (([]:List Int),false)) (Sum.inl ((IntKind.i64.wrap (y0.1 + 1)),((y0.2.1 ++ ((v_atn' y0.2.2) :: ([]:List Int))),(⟨#[]⟩ : ByteArray)))))) (Sum.inr (y0.2.1,true)))
abbrev sp_Z2_0 (_p0:ByteArray) (p1:(List ByteArray)) (y0:(Int×((List Int)×ByteArray))):List Prop := [(((decide (y0.1 < (((List.length (p1 ++ ((⟨#[]⟩ : ByteArray) :: ([]:List ByteArray)))):Nat):Int)))=true)→((0:Int)≤y0.1)),(((decide (y0.1 < (((List.length (p1 ++ ((⟨#[]⟩ : ByteArray) :: ([]:List ByteArray)))):Nat):Int)))=true)→(y0.1 < (((List.length (p1 ++ ((⟨#[]⟩ : ByteArray) :: ([]:List ByteArray)))):Nat):Int))),(((decide (y0.1 < (((List.length (p1 ++ ((⟨#[]⟩ : ByteArray) :: ([]:List ByteArray)))):Nat):Int)))=true)→(((!(v_seq (List.getD (p1 ++ ((⟨#[]⟩ : ByteArray) :: ([]:List ByteArray))) y0.1.toNat (⟨#[]⟩ : ByteArray)) (⟨#[]⟩ : ByteArray)))=true)→((ByteArray.size y0.2.2) < 4294967281))),(((decide (y0.1 < (((List.length (p1 ++ ((⟨#[]⟩ : ByteArray) :: ([]:List ByteArray)))):Nat):Int)))=true)→(((!(v_seq (List.getD (p1 ++ ((⟨#[]⟩ : ByteArray) :: ([]:List ByteArray))) y0.1.toNat (⟨#[]⟩ : ByteArray)) (⟨#[]⟩ : ByteArray)))=true)→((ByteArray.size (v_cut y0.2.2 (List.getD (p1 ++ ((⟨#[]⟩ : ByteArray) :: ([]:List ByteArray))) y0.1.toNat (⟨#[]⟩ : ByteArray))).1)≤281474976710656))),(((decide (y0.1 < (((List.length (p1 ++ ((⟨#[]⟩ : ByteArray) :: ([]:List ByteArray)))):Nat):Int)))=true)→(((!(v_seq (List.getD (p1 ++ ((⟨#[]⟩ : ByteArray) :: ([]:List ByteArray))) y0.1.toNat (⟨#[]⟩ : ByteArray)) (⟨#[]⟩ : ByteArray)))=true)→(((cond (cond (!(v_cut y0.2.2 (List.getD (p1 ++ ((⟨#[]⟩ : ByteArray) :: ([]:List ByteArray))) y0.1.toNat (⟨#[]⟩ : ByteArray))).2.2) true (!(v_ate' (v_cut y0.2.2 (List.getD (p1 ++ ((⟨#[]⟩ : ByteArray) :: ([]:List ByteArray))) y0.1.toNat (⟨#[]⟩ : ByteArray))).1))) true (decide ((v_atn' (v_cut y0.2.2 (List.getD (p1 ++ ((⟨#[]⟩ : ByteArray) :: ([]:List ByteArray))) y0.1.toNat (⟨#[]⟩ : ByteArray))).1) < 0)))=false)→((-9223372036854775808:Int)≤(v_atn' (v_cut y0.2.2 (List.getD (p1 ++ ((⟨#[]⟩ : ByteArray) :: ([]:List ByteArray))) y0.1.toNat (⟨#[]⟩ : ByteArray))).1))))),(((decide (y0.1 < (((List.length (p1 ++ ((⟨#[]⟩ : ByteArray) :: ([]:List ByteArray)))):Nat):Int)))=true)→(((!(v_seq (List.getD (p1 ++ ((⟨#[]⟩ : ByteArray) :: ([]:List ByteArray))) y0.1.toNat (⟨#[]⟩ : ByteArray)) (⟨#[]⟩ : ByteArray)))=true)→(((cond (cond (!(v_cut y0.2.2 (List.getD (p1 ++ ((⟨#[]⟩ : ByteArray) :: ([]:List ByteArray))) y0.1.toNat (⟨#[]⟩ : ByteArray))).2.2) true (!(v_ate' (v_cut y0.2.2 (List.getD (p1 ++ ((⟨#[]⟩ : ByteArray) :: ([]:List ByteArray))) y0.1.toNat (⟨#[]⟩ : ByteArray))).1))) true (decide ((v_atn' (v_cut y0.2.2 (List.getD (p1 ++ ((⟨#[]⟩ : ByteArray) :: ([]:List ByteArray))) y0.1.toNat (⟨#[]⟩ : ByteArray))).1) < 0)))=false)→((v_atn' (v_cut y0.2.2 (List.getD (p1 ++ ((⟨#[]⟩ : ByteArray) :: ([]:List ByteArray))) y0.1.toNat (⟨#[]⟩ : ByteArray))).1)≤9223372036854775807)))),(((decide (y0.1 < (((List.length (p1 ++ ((⟨#[]⟩ : ByteArray) :: ([]:List ByteArray)))):Nat):Int)))=true)→(((!(v_seq (List.getD (p1 ++ ((⟨#[]⟩ : ByteArray) :: ([]:List ByteArray))) y0.1.toNat (⟨#[]⟩ : ByteArray)) (⟨#[]⟩ : ByteArray)))=true)→(((cond (cond (cond (cond (!(v_cut y0.2.2 (List.getD (p1 ++ ((⟨#[]⟩ : ByteArray) :: ([]:List ByteArray))) y0.1.toNat (⟨#[]⟩ : ByteArray))).2.2) true (!(v_ate' (v_cut y0.2.2 (List.getD (p1 ++ ((⟨#[]⟩ : ByteArray) :: ([]:List ByteArray))) y0.1.toNat (⟨#[]⟩ : ByteArray))).1))) true (decide ((v_atn' (v_cut y0.2.2 (List.getD (p1 ++ ((⟨#[]⟩ : ByteArray) :: ([]:List ByteArray))) y0.1.toNat (⟨#[]⟩ : ByteArray))).1) < 0))) true (!(v_seq (v_itoa (v_atn' (v_cut y0.2.2 (List.getD (p1 ++ ((⟨#[]⟩ : ByteArray) :: ([]:List ByteArray))) y0.1.toNat (⟨#[]⟩ : ByteArray))).1)) (v_cut y0.2.2 (List.getD (p1 ++ ((⟨#[]⟩ : ByteArray) :: ([]:List ByteArray))) y0.1.toNat (⟨#[]⟩ : ByteArray))).1))) true (decide ((((ByteArray.size (v_cut y0.2.2 (List.getD (p1 ++ ((⟨#[]⟩ : ByteArray) :: ([]:List ByteArray))) y0.1.toNat (⟨#[]⟩ : ByteArray))).1):Nat):Int) > 6)))=false)→(((y0.2.1.length + (List.length ((v_atn' (v_cut y0.2.2 (List.getD (p1 ++ ((⟨#[]⟩ : ByteArray) :: ([]:List ByteArray))) y0.1.toNat (⟨#[]⟩ : ByteArray))).1) :: ([]:List Int)))) * 8)≤140737488355328)))),(((decide (y0.1 < (((List.length (p1 ++ ((⟨#[]⟩ : ByteArray) :: ([]:List ByteArray)))):Nat):Int)))=true)→(((!(v_seq (List.getD (p1 ++ ((⟨#[]⟩ : ByteArray) :: ([]:List ByteArray))) y0.1.toNat (⟨#[]⟩ : ByteArray)) (⟨#[]⟩ : ByteArray)))=false)→((ByteArray.size y0.2.2)≤281474976710656))),(((decide (y0.1 < (((List.length (p1 ++ ((⟨#[]⟩ : ByteArray) :: ([]:List ByteArray)))):Nat):Int)))=true)→(((!(v_seq (List.getD (p1 ++ ((⟨#[]⟩ : ByteArray) :: ([]:List ByteArray))) y0.1.toNat (⟨#[]⟩ : ByteArray)) (⟨#[]⟩ : ByteArray)))=false)→(((cond (!(v_ate' y0.2.2)) true (decide ((v_atn' y0.2.2) < 0)))=false)→((-9223372036854775808:Int)≤(v_atn' y0.2.2))))),(((decide (y0.1 < (((List.length (p1 ++ ((⟨#[]⟩ : ByteArray) :: ([]:List ByteArray)))):Nat):Int)))=true)→(((!(v_seq (List.getD (p1 ++ ((⟨#[]⟩ : ByteArray) :: ([]:List ByteArray))) y0.1.toNat (⟨#[]⟩ : ByteArray)) (⟨#[]⟩ : ByteArray)))=false)→(((cond (!(v_ate' y0.2.2)) true (decide ((v_atn' y0.2.2) < 0)))=false)→((v_atn' y0.2.2)≤9223372036854775807)))),(((decide (y0.1 < (((List.length (p1 ++ ((⟨#[]⟩ : ByteArray) :: ([]:List ByteArray)))):Nat):Int)))=true)→(((!(v_seq (List.getD (p1 ++ ((⟨#[]⟩ : ByteArray) :: ([]:List ByteArray))) y0.1.toNat (⟨#[]⟩ : ByteArray)) (⟨#[]⟩ : ByteArray)))=false)→(((cond (cond (cond (!(v_ate' y0.2.2)) true (decide ((v_atn' y0.2.2) < 0))) true (!(v_seq (v_itoa (v_atn' y0.2.2)) y0.2.2))) true (decide ((((ByteArray.size y0.2.2):Nat):Int) > 6)))=false)→(((y0.2.1.length + (List.length ((v_atn' y0.2.2) :: ([]:List Int)))) * 8)≤140737488355328))))]
def s_Z2 (p0:ByteArray) (p1:(List ByteArray)):((List Int)×Bool) := (lpv ([],false) (st_Z2_0 p0 p1) ((0:Int),(([]:List Int),p0)))
abbrev pre_Z2 (p0:ByteArray) (p1:(List ByteArray)):List Prop := [(((p1.length + (List.length ((⟨#[]⟩ : ByteArray) :: ([]:List ByteArray)))) * 16)≤140737488355328),(0 < (List.length ((⟨#[]⟩ : ByteArray) :: ([]:List ByteArray)))),(OkL (st_Z2_0 p0 p1) (sp_Z2_0 p0 p1) ((0:Int),(([]:List Int),p0)))]
theorem d_Z2 (p0:ByteArray) (p1:(List ByteArray)) (K:((List Int)×Bool)→Prop) (hp:∀ p∈pre_Z2 p0 p1,p) (h:K (s_Z2 p0 p1)):w_Z2 p0 p1 K := by
 unfold w_Z2
 unfold s_Z2 at h
 obtain ⟨hp0,hp1,hp2,_⟩ := conj_of hp
 exact ⟨(hp0),(hp1),(loop_gen (hp2) h (fun y0 k0 hp h => by
 unfold st_Z2_0 at h; obtain ⟨hp0,hp1,hp2,hp3,hp4,hp5,hp6,hp7,hp8,hp9,hp10,_⟩ := conj_of hp
 exact (br' h (fun e1 h => ⟨(hp0 e1),(hp1 e1),(br' h (fun e2 h => ⟨(hp2 e1 e2),(hp3 e1 e2),rf,rfl,rf,rfl,rf,(hp4 e1 e2),(hp5 e1 e2),rf,rf,rfl,rf,rf,rfl,(br' h (fun e3 h => h)
  (fun e3 h => ⟨(hp6 e1 e2 e3),h⟩))⟩)
  (fun e2 h => ⟨(hp7 e1 e2),rf,rfl,rf,rfl,rf,(hp8 e1 e2),(hp9 e1 e2),rf,rf,rfl,rf,rf,rfl,(br' h (fun e4 h => h)
  (fun e4 h => ⟨(hp10 e1 e2 e4),h⟩))⟩))⟩)
  (fun e1 h => h))))⟩
def v_nmf (t:List Int×ByteArray) (m:ByteArray):(List Int×ByteArray) ⊕ (List Int×Bool) := match cond (m.size == 0) (t.2,(⟨#[]⟩ : ByteArray),true) (v_cut t.2 m) with
 | (w,rest,found) => match cond found (v_nt w) none with
  | some n => .inl (t.1 ++ [n],rest)
  | none => .inr ([],false)
theorem v_nmf_go:∀ (l:List ByteArray) (i:Int) (t:List Int×ByteArray),v_go (fun _ t m => v_nmf t m) (fun t => (t.1,true)) i t l = v_nms l t.1 t.2
 | [],_,_ => rfl
 | m :: r,i,t => by
  rw [v_go_cons,v_nms]
  unfold v_nmf
  generalize (cond (m.size == 0) (t.2,(⟨#[]⟩ : ByteArray),true) (v_cut t.2 m))=c
  obtain ⟨w,rest,found⟩ := c
  dsimp only
  cases (cond found (v_nt w) none) with
  | none => rfl
  | some n => exact v_nmf_go r (i + 1) (t.1 ++ [n],rest)
theorem v_seq0 (m:ByteArray):v_seq m (⟨#[]⟩ : ByteArray)=(m.size == 0) := by
 obtain ⟨⟨l⟩⟩ := m
 cases l <;> rfl
theorem tx_nmw (w:ByteArray) (out:gF) (rest:ByteArray) (i:Int):(cond (cond (cond (cond (!(v_ate' w)) true (decide (v_atn' w < 0))) true (!(v_seq (v_itoa (v_atn' w)) w))) true (decide ((w.size:Int) > 6))) (Sum.inr (([]:List Int),false)) (Sum.inl (i,(out ++ [v_atn' w],rest))):(Int×(List Int×ByteArray)) ⊕ (List Int×Bool))=match v_nt w with | some n => .inl (i,(out ++ [n],rest)) | none => .inr ([],false) := by
 obtain ⟨h1,h2⟩ := v_nt_prog w
 unfold v_ate' v_atn'
 rw [h1]
 cases h:v_nt w with
 | none => rfl
 | some n => rw [h2 n h]; rfl
theorem l_Z2_0 (p0:ByteArray) (p1:List ByteArray) (hl:p1.length≤1000) (hs:p0.size≤1000000):OkL (st_Z2_0 p0 p1) (sp_Z2_0 p0 p1) (0,([],p0))∧lpv ([],false) (st_Z2_0 p0 p1) (0,([],p0))=v_nms (p1 ++ [⟨#[]⟩]) [] p0 := by
 have h := go_is (dd := ([],false)) (st := st_Z2_0 p0 p1) (sp := sp_Z2_0 p0 p1) (fun i (t:List Int×ByteArray) => (i,t)) (p1 ++ [(⟨#[]⟩ : ByteArray)]) (⟨#[]⟩ : ByteArray) (fun _ t m => v_nmf t m) (fun t => (t.1,true))
  (fun j t => t.1.length≤j∧t.2.size≤1000000) (by unfold lenOk; simp; omega) (fun t ht => ?_) (fun j t hj ht => ?_) ([],p0) ⟨Nat.le_refl _,hs⟩
 ·rw [v_nmf_go] at h; exact h
 ·refine ⟨?_,?_⟩
  ·unfold sp_Z2_0
   simp only [fM,decide_eq_true_eq,decide_eq_false_iff_not]
   and_intros
   all_goals first | (intro h; exact absurd h (Int.lt_irrefl _)) | (simp; done)
  ·unfold st_Z2_0
   rw [decide_eq_false (Int.lt_irrefl _)]; rfl
 ·have hj' : (j:Int) < ((p1 ++ [(⟨#[]⟩ : ByteArray)]).length:Nat) := by omega
  have hjl:j≤1000 := by simp at hj; omega
  refine ⟨?_,?_,?_⟩
  ·unfold sp_Z2_0
   simp only [fM,hj',decide_true,Int.toNat_natCast]
   obtain ⟨m,hm0⟩ : ∃ m,(p1 ++ [(⟨#[]⟩ : ByteArray)]).getD j ⟨#[]⟩ = m := ⟨_,rfl⟩
   simp only [hm0]
   have hc := v_cut_size t.2 m
   have hr1:∀ w:ByteArray,(cond (!(v_ate' w)) true (decide (v_atn' w < 0)))=false→-9223372036854775808≤v_atn' w∧v_atn' w≤9223372036854775807 := fun w h => by
    cases e:v_ate' w with
    | false => rw [e] at h; cases h
    | true => exact v_at_rng e
   have hr2:∀ (w:ByteArray) (b:Bool),(cond (cond b true (!(v_ate' w))) true (decide (v_atn' w < 0)))=false→-9223372036854775808≤v_atn' w∧v_atn' w≤9223372036854775807 := fun w b h => by
    cases b with
    | true => cases h
    | false => exact hr1 w h
   have hlen:t.1.length≤1000 := Nat.le_trans ht.1 hjl
   and_intros
   all_goals first | (intros; omega) | (intro _ _ h; exact (hr2 _ _ h).1) | (intro _ _ h; exact (hr2 _ _ h).2) | (intro _ _ h; exact (hr1 _ h).1) | (intro _ _ h; exact (hr1 _ h).2) | (intros; simp only [List.length_cons,List.length_nil]; omega) | (simp; done)
  ·unfold st_Z2_0 v_nmf
   simp only [hj',decide_true,cond_true,Int.toNat_natCast]
   rw [wrap_nat (show (j:Int)≤9223372036854775806 by omega)]
   obtain ⟨m,hm0⟩ : ∃ m,(p1 ++ [(⟨#[]⟩ : ByteArray)]).getD j ⟨#[]⟩ = m := ⟨_,rfl⟩
   simp only [hm0]
   rw [v_seq0]
   cases hm:(m.size == 0) with
   | true =>
    simp only [Bool.not_true,cond_false,cond_true]
    rw [tx_nmw]
    cases v_nt t.2 <;> rfl
   | false =>
    simp only [Bool.not_false,cond_true,cond_false]
    generalize v_cut t.2 m = c
    obtain ⟨w,rest,found⟩ := c
    dsimp only
    cases found with
    | false => rfl
    | true =>
     simp only [Bool.not_true,cond_false,cond_true]
     rw [tx_nmw]
     cases v_nt w <;> rfl
  ·intro t' h'
   unfold v_nmf at h'
   have hc := v_cut_size t.2 ((p1 ++ [(⟨#[]⟩ : ByteArray)]).getD j ⟨#[]⟩)
   generalize (p1 ++ [(⟨#[]⟩ : ByteArray)]).getD j ⟨#[]⟩ = m at h' hc
   cases hm:(m.size == 0) with
   | true =>
    rw [hm] at h'
    simp only [cond_true] at h'
    cases hn:v_nt t.2 with
    | none => rw [hn] at h'; cases h'
    | some n =>
     rw [hn] at h'
     simp only [Sum.inl.injEq] at h'
     subst h'
     exact ⟨by simp; exact ht.1,Nat.zero_le _⟩
   | false =>
    rw [hm] at h'
    simp only [cond_false] at h'
    generalize v_cut t.2 m = c at h' hc
    obtain ⟨w,rest,found⟩ := c
    dsimp only at h' hc
    cases hn:(cond found (v_nt w) none) with
    | none => rw [hn] at h'; cases h'
    | some n =>
     rw [hn] at h'
     simp only [Sum.inl.injEq] at h'
     subst h'
     exact ⟨by simp; exact ht.1,Nat.le_trans hc.2 ht.2⟩
abbrev t_Z2 (p0:ByteArray) (p1:List ByteArray):List Int×Bool := v_nms (p1 ++ [⟨#[]⟩]) [] p0
abbrev qre_Z2 (p0:ByteArray) (p1:List ByteArray):List Prop := [p1.length≤1000,p0.size≤1000000]
theorem pp_Z2 (p0:ByteArray) (p1:List ByteArray) (hq:∀ p∈qre_Z2 p0 p1,p):∀ p∈pre_Z2 p0 p1,p := by
 obtain ⟨h1,h2,_⟩ := conj_of hq
 simp only [pre_Z2,fM]
 exact ⟨by simp; omega,by simp,(l_Z2_0 p0 p1 h1 h2).1,by simp⟩
theorem tt_Z2 (p0:ByteArray) (p1:List ByteArray) (hq:∀ p∈qre_Z2 p0 p1,p):s_Z2 p0 p1 = t_Z2 p0 p1 := by
 obtain ⟨h1,h2,_⟩ := conj_of hq
 exact (l_Z2_0 p0 p1 h1 h2).2

abbrev con_Z2:Con := ⟨P_Z2,R_Z2,fun x => qre_Z2 x.1 x.2,fun x => t_Z2 x.1 x.2⟩
theorem ok_Z2:ConOk Tryz.prog 97 con_Z2 := okG k_Z2 e_Z2 hC_Z2 fun x hx => tf_of (w_Z2_eq x.1 x.2 _) (d_Z2 x.1 x.2 _ (pp_Z2 x.1 x.2 hx) (tt_Z2 x.1 x.2 hx))
def C_Z4:Cons := []
theorem hC_Z4:ConsOk Tryz.prog C_Z4 := ConsOk.nil
def w_Z4 (p0:Int) (p1:Int) (p2:Int) (K:Bool→Prop):Prop := ((((decide (p1≤p0))=true) →((decide (p1≤p0))=(decide (p1≤p0)))) ∧((((decide (p1≤p0))=true) →((decide (p1≤p0))=(decide (p1≤p0)))) ∧(((decide (p1≤p0))=(decide (p1≤p0))) ∧(K (cond (decide (p1≤p0)) (decide (p0≤p2)) false)))))
theorem w_Z4_eq (p0:Int) (p1:Int) (p2:Int) (K:Bool→Prop):tfn F_Z4 A_Z4 C_Z4 P_Z4 R_Z4 (p0,p1,p2) K = w_Z4 p0 p1 p2 K := by kernel_rfl
def s_Z4 (p0:Int) (p1:Int) (p2:Int):Bool := (cond (decide (p1≤p0)) (decide (p0≤p2)) false)
abbrev pre_Z4 (_p0:Int) (_p1:Int) (_p2:Int):List Prop := []
theorem d_Z4 (p0:Int) (p1:Int) (p2:Int) (K:Bool→Prop) (_hp:∀ p∈pre_Z4 p0 p1 p2,p) (h:K (s_Z4 p0 p1 p2)):w_Z4 p0 p1 p2 K := by
 unfold w_Z4
 unfold s_Z4 at h
 exact ⟨rf,rf,rfl,h⟩
abbrev con_Z4:Con := ⟨P_Z4,R_Z4,fun x => pre_Z4 x.1 x.2.1 x.2.2,fun x => s_Z4 x.1 x.2.1 x.2.2⟩
theorem ok_Z4:ConOk Tryz.prog 8 con_Z4 := okG k_Z4 e_Z4 hC_Z4 fun x hx => tf_of (w_Z4_eq x.1 x.2.1 x.2.2 _) (d_Z4 x.1 x.2.1 x.2.2 _ hx rfl)
theorem tx_within {n lo hi:Int}:s_Z4 n lo hi = true ↔ lo≤n∧n≤hi := by unfold s_Z4; simp
def C_Z11:Cons := [(8,[],con_Z4)]
theorem hC_Z11:ConsOk Tryz.prog C_Z11 := cC ok_Z4 <| ConsOk.nil
def w_Z11 (p0:Int) (K:Bool→Prop):Prop := (K (s_Z4 p0 zz1 (20:Int)))
theorem w_Z11_eq (p0:Int) (K:Bool→Prop):tfn F_Z11 A_Z11 C_Z11 P_Z11 R_Z11 p0 K = w_Z11 p0 K := by kernel_rfl
def s_Z11 (p0:Int):Bool := (s_Z4 p0 (1:Int) (20:Int))
abbrev pre_Z11 (_p0:Int):List Prop := []
theorem d_Z11 (p0:Int) (K:Bool→Prop) (_hp:∀ p∈pre_Z11 p0,p) (h:K (s_Z11 p0)):w_Z11 p0 K := by
 unfold w_Z11
 unfold s_Z11 at h
 exact h
abbrev con_Z11:Con := ⟨P_Z11,R_Z11,fun x => pre_Z11 x,fun x => s_Z11 x⟩
theorem ok_Z11:ConOk Tryz.prog 157 con_Z11 := okG k_Z11 e_Z11 hC_Z11 fun x hx => tf_of (w_Z11_eq x _) (d_Z11 x _ hx rfl)
def C_Z12:Cons := [(8,[],con_Z4)]
theorem hC_Z12:ConsOk Tryz.prog C_Z12 := cC ok_Z4 <| ConsOk.nil
def w_Z12 (p0:Int) (K:Bool→Prop):Prop := (K (s_Z4 p0 zz0 (10:Int)))
theorem w_Z12_eq (p0:Int) (K:Bool→Prop):tfn F_Z12 A_Z12 C_Z12 P_Z12 R_Z12 p0 K = w_Z12 p0 K := by kernel_rfl
def s_Z12 (p0:Int):Bool := (s_Z4 p0 (0:Int) (10:Int))
abbrev pre_Z12 (_p0:Int):List Prop := []
theorem d_Z12 (p0:Int) (K:Bool→Prop) (_hp:∀ p∈pre_Z12 p0,p) (h:K (s_Z12 p0)):w_Z12 p0 K := by
 unfold w_Z12
 unfold s_Z12 at h
 exact h
abbrev con_Z12:Con := ⟨P_Z12,R_Z12,fun x => pre_Z12 x,fun x => s_Z12 x⟩
theorem ok_Z12:ConOk Tryz.prog 158 con_Z12 := okG k_Z12 e_Z12 hC_Z12 fun x hx => tf_of (w_Z12_eq x _) (d_Z12 x _ hx rfl)
def C_Z7:Cons := [(157,[],con_Z11),(158,[],con_Z12)]
theorem hC_Z7:ConsOk Tryz.prog C_Z7 := cC ok_Z11 <| cC ok_Z12 <| ConsOk.nil
abbrev q0_Z7 (p0:gC) (y1:Int) := (!(s_Z4 (p0.getD y1.toNat (zz0,zz0)).1 zz1 (20:Int)))
def w_Z7 (p0:gC) (K:tQA→Prop):Prop := (((((p0.length:Int) == zz0)=true) →(K (zz0,(10:Int)))) ∧((((p0.length:Int) == zz0)=false) →((((decide ((p0.length:Int) > 4))=true) →(K (zz0,(8:Int)))) ∧(((decide ((p0.length:Int) > 4))=false) →(∃ n0,(loopP (fun (y1:Int) k2 => ((((decide (y1 < (p0.length:Int)))=true) →((zz0≤y1) ∧((y1 < (p0.length:Int)) ∧((((q0_Z7 p0 y1)=false) →((q0_Z7 p0 y1)=(q0_Z7 p0 y1))) ∧((((q0_Z7 p0 y1)=false) →((q0_Z7 p0 y1)=(q0_Z7 p0 y1))) ∧((((q0_Z7 p0 y1)=false) →((q0_Z7 p0 y1)=(q0_Z7 p0 y1))) ∧((((q0_Z7 p0 y1)=false) →(zz0≤y1)) ∧((((q0_Z7 p0 y1)=false) →(y1 < (p0.length:Int))) ∧((((q0_Z7 p0 y1)=false) →((q0_Z7 p0 y1)=(q0_Z7 p0 y1))) ∧((((q0_Z7 p0 y1)=false) →((q0_Z7 p0 y1)=(q0_Z7 p0 y1))) ∧((((q0_Z7 p0 y1)=false) →((q0_Z7 p0 y1)=(q0_Z7 p0 y1))) ∧((((q0_Z7 p0 y1)=false) →((q0_Z7 p0 y1)=(q0_Z7 p0 y1))) ∧(((q0_Z7 p0 y1)=(q0_Z7 p0 y1)) ∧((((cond (q0_Z7 p0 y1) true (!(s_Z4 (p0.getD y1.toNat (zz0,zz0)).2 zz0 (10:Int))))=true) →(K (y1,zz2))) ∧(((cond (q0_Z7 p0 y1) true (!(s_Z4 (p0.getD y1.toNat (zz0,zz0)).2 zz0 (10:Int))))=false) →((((y1 == (wi ((p0.length:Int) - zz1)))=true) →((y1 == (wi ((p0.length:Int) - zz1)))=(y1 == (wi ((p0.length:Int) - zz1))))) ∧((((y1 == (wi ((p0.length:Int) - zz1)))=true) →((y1 == (wi ((p0.length:Int) - zz1)))=(y1 == (wi ((p0.length:Int) - zz1))))) ∧((((y1 == (wi ((p0.length:Int) - zz1)))=true) →((y1 == (wi ((p0.length:Int) - zz1)))=(y1 == (wi ((p0.length:Int) - zz1))))) ∧((((y1 == (wi ((p0.length:Int) - zz1)))=true) →(zz0≤y1)) ∧((((y1 == (wi ((p0.length:Int) - zz1)))=true) →(y1 < (p0.length:Int))) ∧((((y1 == (wi ((p0.length:Int) - zz1)))=true) →((y1 == (wi ((p0.length:Int) - zz1)))=(y1 == (wi ((p0.length:Int) - zz1))))) ∧((((y1 == (wi ((p0.length:Int) - zz1)))=true) →((y1 == (wi ((p0.length:Int) - zz1)))=(y1 == (wi ((p0.length:Int) - zz1))))) ∧((((y1 == (wi ((p0.length:Int) - zz1)))=true) →((y1 == (wi ((p0.length:Int) - zz1)))=(y1 == (wi ((p0.length:Int) - zz1))))) ∧(((y1 == (wi ((p0.length:Int) - zz1)))=(y1 == (wi ((p0.length:Int) - zz1)))) ∧((((cond (y1 == (wi ((p0.length:Int) - zz1))) ((p0.getD y1.toNat (zz0,zz0)).2 != zz0) false)=true) →(K (y1,zz3))) ∧(((cond (y1 == (wi ((p0.length:Int) - zz1))) ((p0.getD y1.toNat (zz0,zz0)).2 != zz0) false)=false) →(k2 (wi (y1 + zz1))))))))))))))))))))))))))))) ∧(((decide (y1 < (p0.length:Int)))=false) →(K (zz0,zz0))))) n0 zz0))))))
theorem w_Z7_eq (p0:gC) (K:tQA→Prop):tfn F_Z7 A_Z7 C_Z7 P_Z7 R_Z7 p0 K = w_Z7 p0 K := by kernel_rfl
def st_Z7_0 (p0:gC) (y2:Int):Int ⊕ tQA := (cond (decide (y2 < (p0.length:Int))) (cond (cond (!(s_Z4 (p0.getD y2.toNat (0,0)).1 (1:Int) (20:Int))) true (!(s_Z4 (p0.getD y2.toNat (0,0)).2 (0:Int) (10:Int)))) (Sum.inr (y2,(2:Int))) (cond (cond (y2 == (IntKind.i64.wrap ((p0.length:Int) - 1))) ((p0.getD y2.toNat (0,0)).2 != 0) false) (Sum.inr (y2,(3:Int))) (Sum.inl (IntKind.i64.wrap (y2 + 1))))) (Sum.inr (0,0)))
abbrev sp_Z7_0 (p0:gC) (y2:Int):List Prop := [(((decide (y2 < (p0.length:Int)))=true)→((0:Int)≤y2)),(((decide (y2 < (p0.length:Int)))=true)→(y2 < (p0.length:Int))),(((decide (y2 < (p0.length:Int)))=true)→(((!(s_Z4 (p0.getD y2.toNat (0,0)).1 (1:Int) (20:Int)))=false)→((0:Int)≤y2))),(((decide (y2 < (p0.length:Int)))=true)→(((!(s_Z4 (p0.getD y2.toNat (0,0)).1 (1:Int) (20:Int)))=false)→(y2 < (p0.length:Int)))),(((decide (y2 < (p0.length:Int)))=true)→(((cond (!(s_Z4 (p0.getD y2.toNat (0,0)).1 (1:Int) (20:Int))) true (!(s_Z4 (p0.getD y2.toNat (0,0)).2 (0:Int) (10:Int))))=false)→(((y2 == (IntKind.i64.wrap ((p0.length:Int) - 1)))=true)→((0:Int)≤y2)))),(((decide (y2 < (p0.length:Int)))=true)→(((cond (!(s_Z4 (p0.getD y2.toNat (0,0)).1 (1:Int) (20:Int))) true (!(s_Z4 (p0.getD y2.toNat (0,0)).2 (0:Int) (10:Int))))=false)→(((y2 == (IntKind.i64.wrap ((p0.length:Int) - 1)))=true)→(y2 < (p0.length:Int)))))]
def s_Z7 (p0:gC):tQA := (cond ((p0.length:Int) == 0) ((0:Int),(10:Int)) (cond (decide ((p0.length:Int) > 4)) ((0:Int),(8:Int)) (lpv (0,0) (st_Z7_0 p0) (0:Int))))
abbrev pre_Z7 (p0:gC):List Prop := [((((p0.length:Int) == 0)=false)→(((decide ((p0.length:Int) > 4))=false)→(OkL (st_Z7_0 p0) (sp_Z7_0 p0) (0:Int))))]
theorem d_Z7 (p0:gC) (K:tQA→Prop) (hp:∀ p∈pre_Z7 p0,p) (h:K (s_Z7 p0)):w_Z7 p0 K := by
 unfold w_Z7
 unfold s_Z7 at h
 obtain ⟨hp0,_⟩ := conj_of hp
 exact (br' h (fun e0 h => h)
  (fun e0 h => (br' h (fun e1 h => h)
  (fun e1 h => (loop_gen (hp0 e0 e1) h (fun y2 k2 hp h => by
 unfold st_Z7_0 at h; obtain ⟨hp0,hp1,hp2,hp3,hp4,hp5,_⟩ := conj_of hp
 exact (br' h (fun e3 h => ⟨(hp0 e3),(hp1 e3),rf,rf,rf,(hp2 e3),(hp3 e3),rf,rf,rf,rf,rfl,(br' h (fun e4 h => h)
  (fun e4 h => ⟨rf,rf,rf,(hp4 e3 e4),(hp5 e3 e4),rf,rf,rf,rfl,(br' h (fun e5 h => h)
  (fun e5 h => h))⟩))⟩)
  (fun e3 h => h))))))))
/-- What is wrong with a layer; with layers. -/
def v_cm1 (n:Int) (i:Int) (x:gG):Option tQA := cond (cond (s_Z4 x.1 1 20) (s_Z4 x.2 0 10) false) (cond (cond (i == n - 1) (x.2 == 0) true) none (some (i,3))) (some (i,2))
def v_cm (l:gC):Int×Int := cond ((l.length:Int) == 0) (0,10) (cond (decide ((l.length:Int) > 4)) (0,8) (v_scan (v_cm1 l.length) (0,0) 0 l))
theorem l_Z7_0 (p0:gC) (hl:p0.length≤4):OkL (st_Z7_0 p0) (sp_Z7_0 p0) 0∧lpv ((0,0):Int×Int) (st_Z7_0 p0) 0 = v_scan (v_cm1 p0.length) (0,0) 0 p0 := by
 refine scan_is p0 (0,0) (v_cm1 p0.length) ((0,0):Int×Int) (lenOk_le hl (by decide)) ?_ ?_
 ·refine ⟨by simp only [sp_Z7_0,fM,decide_eq_true_eq]; simp,by simp [st_Z7_0]⟩
 ·intro j hj
  have hj' : (j:Int) < p0.length := by omega
  refine ⟨by simp only [sp_Z7_0,fM,decide_eq_true_eq,Int.toNat_natCast]; simp <;> omega,?_⟩
  simp only [st_Z7_0,hj',decide_true,Int.toNat_natCast,cond_true,wrap_nat (show (j:Int)≤9223372036854775806 by omega),v_cm1]
  rw [wrap_id (n := (p0.length:Int) - 1) (by omega) (by omega)]
  rcases int0 (p0.getD j (0,0)).2 with ⟨_,e1,e2⟩ | ⟨_,e1,e2⟩ <;> rw [e1,e2] <;> cases s_Z4 (p0.getD j (0,0)).1 1 20 <;> cases s_Z4 (p0.getD j (0,0)).2 0 10 <;> cases ((j:Int) == (p0.length:Int) - 1) <;> rfl
abbrev t_Z7 (p0:gC):Int×Int := v_cm p0
abbrev qre_Z7 (_p0:gC):List Prop := []
theorem pp_Z7 (p0:gC) (_hq:∀ p∈qre_Z7 p0,p):∀ p∈pre_Z7 p0,p := by
 simp only [pre_Z7,fM]
 exact ⟨fun _ h => (l_Z7_0 p0 (by have := of_decide_eq_false h; omega)).1,by simp⟩
theorem tt_Z7 (p0:gC) (_hq:∀ p∈qre_Z7 p0,p):s_Z7 p0 = t_Z7 p0 := by
 unfold s_Z7 t_Z7 v_cm
 cases h:decide ((p0.length:Int) > 4)
 ·rw [(l_Z7_0 p0 (by have := of_decide_eq_false h; omega)).2]
 ·rfl

abbrev con_Z7:Con := ⟨P_Z7,R_Z7,fun x => qre_Z7 x,fun x => t_Z7 x⟩
theorem ok_Z7:ConOk Tryz.prog 104 con_Z7 := okG k_Z7 e_Z7 hC_Z7 fun x hx => tf_of (w_Z7_eq x _) (d_Z7 x _ (pp_Z7 x hx) (tt_Z7 x hx))
def C_Zg:Cons := []
theorem hC_Zg:ConsOk Tryz.prog C_Zg := ConsOk.nil
def w_Zg (p0:Int) (p1:Int) (p2:Int) (K:Bool→Prop):Prop := ((((decide (p1≤p0))=true) →((decide (p1≤p0))=(decide (p1≤p0)))) ∧((((decide (p1≤p0))=true) →((decide (p1≤p0))=(decide (p1≤p0)))) ∧(((decide (p1≤p0))=(decide (p1≤p0))) ∧(K (cond (decide (p1≤p0)) (decide (p0≤p2)) false)))))
theorem w_Zg_eq (p0:Int) (p1:Int) (p2:Int) (K:Bool→Prop):tfn F_Zg A_Zg C_Zg P_Zg R_Zg (p0,p1,p2) K = w_Zg p0 p1 p2 K := by kernel_rfl
def s_Zg (p0:Int) (p1:Int) (p2:Int):Bool := (cond (decide (p1≤p0)) (decide (p0≤p2)) false)
abbrev pre_Zg (_p0:Int) (_p1:Int) (_p2:Int):List Prop := []
theorem d_Zg (p0:Int) (p1:Int) (p2:Int) (K:Bool→Prop) (_hp:∀ p∈pre_Zg p0 p1 p2,p) (h:K (s_Zg p0 p1 p2)):w_Zg p0 p1 p2 K := by
 unfold w_Zg
 unfold s_Zg at h
 exact ⟨rf,rf,rfl,h⟩
abbrev con_Zg:Con := ⟨P_Zg,R_Zg,fun x => pre_Zg x.1 x.2.1 x.2.2,fun x => s_Zg x.1 x.2.1 x.2.2⟩
theorem ok_Zg:ConOk Tryz.prog 118 con_Zg := okG k_Zg e_Zg hC_Zg fun x hx => tf_of (w_Zg_eq x.1 x.2.1 x.2.2 _) (d_Zg x.1 x.2.1 x.2.2 _ hx rfl)
theorem tx_withinG {n lo hi:Int}:s_Zg n lo hi = s_Z4 n lo hi := rfl
def C_Z8:Cons := []
theorem hC_Z8:ConsOk Tryz.prog C_Z8 := ConsOk.nil
def w_Z8 (p0:Bool) (p1:Int) (K:Int→Prop):Prop := (((p0 = true) →(K zz0)) ∧((p0 = false) →(K p1)))
theorem w_Z8_eq (p0:Bool) (p1:Int) (K:Int→Prop):tfn F_Z8 A_Z8 C_Z8 P_Z8 R_Z8 (p0,p1) K = w_Z8 p0 p1 K := by kernel_rfl
def s_Z8 (p0:Bool) (p1:Int):Int := (cond p0 (0:Int) p1)
abbrev pre_Z8 (_p0:Bool) (_p1:Int):List Prop := []
theorem d_Z8 (p0:Bool) (p1:Int) (K:Int→Prop) (_hp:∀ p∈pre_Z8 p0 p1,p) (h:K (s_Z8 p0 p1)):w_Z8 p0 p1 K := by
 unfold w_Z8
 unfold s_Z8 at h
 exact (br' h (fun e0 h => h)
  (fun e0 h => h))
abbrev con_Z8:Con := ⟨P_Z8,R_Z8,fun x => pre_Z8 x.1 x.2,fun x => s_Z8 x.1 x.2⟩
theorem ok_Z8:ConOk Tryz.prog 117 con_Z8 := okG k_Z8 e_Z8 hC_Z8 fun x hx => tf_of (w_Z8_eq x.1 x.2 _) (d_Z8 x.1 x.2 _ hx rfl)
def C_Zj:Cons := []
theorem hC_Zj:ConsOk Tryz.prog C_Zj := ConsOk.nil
def w_Zj (p0:gF) (K:Int→Prop):Prop := (∃ n0,(loopP (fun (y1:Int) k2 => ((((decide (y1 < (p0.length:Int)))=true) →((zz0≤y1) ∧((y1 < (p0.length:Int)) ∧(((((p0.getD y1.toNat zz0) != 0)=true) →(K (p0.getD y1.toNat zz0))) ∧((((p0.getD y1.toNat zz0) != 0)=false) →(k2 (IntKind.i64.wrap (y1 + 1)))))))) ∧(((decide (y1 < (p0.length:Int)))=false) →(K zz0)))) n0 zz0))
theorem w_Zj_eq (p0:gF) (K:Int→Prop):tfn F_Zj A_Zj C_Zj P_Zj R_Zj p0 K = w_Zj p0 K := by kernel_rfl
def st_Zj_0 (p0:gF) (y0:Int):Int ⊕ Int := (cond (decide (y0 < (p0.length:Int))) (cond ((p0.getD y0.toNat (0:Int)) != 0) (Sum.inr (p0.getD y0.toNat (0:Int))) (Sum.inl (IntKind.i64.wrap (y0 + 1)))) (Sum.inr (0:Int)))
abbrev sp_Zj_0 (p0:gF) (y0:Int):List Prop := [(((decide (y0 < (p0.length:Int)))=true)→((0:Int)≤y0)),(((decide (y0 < (p0.length:Int)))=true)→(y0 < (p0.length:Int)))]
def s_Zj (p0:gF):Int := (lpv (0:Int) (st_Zj_0 p0) (0:Int))
abbrev pre_Zj (p0:gF):List Prop := [(OkL (st_Zj_0 p0) (sp_Zj_0 p0) (0:Int))]
theorem d_Zj (p0:gF) (K:Int→Prop) (hp:∀ p∈pre_Zj p0,p) (h:K (s_Zj p0)):w_Zj p0 K := by
 unfold w_Zj
 unfold s_Zj at h
 obtain ⟨hp0,_⟩ := conj_of hp
 exact (loop_gen (hp0) h (fun y0 k0 hp h => by
 unfold st_Zj_0 at h; obtain ⟨hp0,hp1,_⟩ := conj_of hp
 exact (br' h (fun e1 h => ⟨(hp0 e1),(hp1 e1),(br' h (fun e2 h => h)
  (fun e2 h => h))⟩)
  (fun e1 h => h))))
theorem l_Zj_0 (p0:gF) (hl:lenOk p0):OkL (st_Zj_0 p0) (sp_Zj_0 p0) 0∧lpv (0:Int) (st_Zj_0 p0) 0 = v_scan (fun _ x => cond (x != 0) (some x) none) (0:Int) 0 p0 := by
 refine scan_is p0 0 (fun _ x => cond (x != 0) (some x) none) (0:Int) hl ?_ ?_
 ·refine ⟨by simp only [sp_Zj_0,fM,decide_eq_true_eq]; simp,by simp [st_Zj_0]⟩
 ·intro j hj
  have hj' : (j:Int) < p0.length := by omega
  refine ⟨by simp only [sp_Zj_0,fM,decide_eq_true_eq,Int.toNat_natCast]; simp <;> omega,?_⟩
  simp only [st_Zj_0,hj',decide_true,Int.toNat_natCast,cond_true,wrap_nat (show (j:Int)≤9223372036854775806 by unfold lenOk at hl; omega)]
  generalize p0.getD j 0 = x
  cases (x != 0) <;> rfl
abbrev t_Zj (p0:gF):Int := v_first p0
abbrev qre_Zj (p0:gF):List Prop := [lenOk p0]
theorem pp_Zj (p0:gF) (hq:∀ p∈qre_Zj p0,p):∀ p∈pre_Zj p0,p := by
 simp only [pre_Zj,fM]
 exact ⟨(l_Zj_0 p0 (conj_of hq).1).1,by simp⟩
theorem tt_Zj (p0:gF) (hq:∀ p∈qre_Zj p0,p):s_Zj p0 = t_Zj p0 := by
 exact (l_Zj_0 p0 (conj_of hq).1).2.trans (v_first_scan p0 0)

abbrev con_Zj:Con := ⟨P_Zj,R_Zj,fun x => qre_Zj x,fun x => t_Zj x⟩
theorem ok_Zj:ConOk Tryz.prog 121 con_Zj := okG k_Zj e_Zj hC_Zj fun x hx => tf_of (w_Zj_eq x _) (d_Zj x _ (pp_Zj x hx) (tt_Zj x hx))
def C_Zt:Cons := [(118,[],con_Zg)]
theorem hC_Zt:ConsOk Tryz.prog C_Zt := cC ok_Zg <| ConsOk.nil
def w_Zt (p0:Int) (K:Bool→Prop):Prop := (K (s_Zg p0 zz1 (20:Int)))
theorem w_Zt_eq (p0:Int) (K:Bool→Prop):tfn F_Zt A_Zt C_Zt P_Zt R_Zt p0 K = w_Zt p0 K := by kernel_rfl
def s_Zt (p0:Int):Bool := (s_Zg p0 (1:Int) (20:Int))
abbrev pre_Zt (_p0:Int):List Prop := []
theorem d_Zt (p0:Int) (K:Bool→Prop) (_hp:∀ p∈pre_Zt p0,p) (h:K (s_Zt p0)):w_Zt p0 K := by
 unfold w_Zt
 unfold s_Zt at h
 exact h
abbrev con_Zt:Con := ⟨P_Zt,R_Zt,fun x => pre_Zt x,fun x => s_Zt x⟩
theorem ok_Zt:ConOk Tryz.prog 198 con_Zt := okG k_Zt e_Zt hC_Zt fun x hx => tf_of (w_Zt_eq x _) (d_Zt x _ hx rfl)
def C_Zu:Cons := [(118,[],con_Zg)]
theorem hC_Zu:ConsOk Tryz.prog C_Zu := cC ok_Zg <| ConsOk.nil
def w_Zu (p0:Int) (K:Bool→Prop):Prop := (K (s_Zg p0 zz0 (10:Int)))
theorem w_Zu_eq (p0:Int) (K:Bool→Prop):tfn F_Zu A_Zu C_Zu P_Zu R_Zu p0 K = w_Zu p0 K := by kernel_rfl
def s_Zu (p0:Int):Bool := (s_Zg p0 (0:Int) (10:Int))
abbrev pre_Zu (_p0:Int):List Prop := []
theorem d_Zu (p0:Int) (K:Bool→Prop) (_hp:∀ p∈pre_Zu p0,p) (h:K (s_Zu p0)):w_Zu p0 K := by
 unfold w_Zu
 unfold s_Zu at h
 exact h
abbrev con_Zu:Con := ⟨P_Zu,R_Zu,fun x => pre_Zu x,fun x => s_Zu x⟩
theorem ok_Zu:ConOk Tryz.prog 199 con_Zu := okG k_Zu e_Zu hC_Zu fun x hx => tf_of (w_Zu_eq x _) (d_Zu x _ hx rfl)
def C_Za:Cons := [(117,[],con_Z8),(121,[],con_Zj),(198,[],con_Zt),(199,[],con_Zu)]
theorem hC_Za:ConsOk Tryz.prog C_Za := cC ok_Z8 <| cC ok_Zj <| cC ok_Zt <| cC ok_Zu <| ConsOk.nil
abbrev q0_Za (p0:gC) (y1:Int) := (s_Zg (p0.getD y1.toNat (zz0,zz0)).1 zz1 (20:Int))
abbrev q1_Za (p0:gC) := ((s_Z8 (decide ((p0.length:Int) > zz0)) (10:Int)) :: ((s_Z8 (decide ((p0.length:Int)≤4)) (8:Int)) :: ([]:List Int)))
abbrev q2_Za (p0:gC) (y1:Int) := (s_Z8 (cond (q0_Za p0 y1) (s_Zg (p0.getD y1.toNat (zz0,zz0)).2 zz0 (10:Int)) false) zz2)
def w_Za (p0:gC) (K:tQA→Prop):Prop := ((lenOk (q1_Za p0)) ∧(((((v_first (q1_Za p0)) != zz0)=true) →(K (zz0,(v_first (q1_Za p0))))) ∧((((v_first (q1_Za p0)) != zz0)=false) →(∃ n0,(loopP (fun (y1:Int) k2 => ((((decide (y1 < (p0.length:Int)))=true) →((zz0≤y1) ∧((y1 < (p0.length:Int)) ∧((((q0_Za p0 y1)=true) →((q0_Za p0 y1)=(q0_Za p0 y1))) ∧((((q0_Za p0 y1)=true) →((q0_Za p0 y1)=(q0_Za p0 y1))) ∧(((q0_Za p0 y1)=(q0_Za p0 y1)) ∧((((!(y1 == (wi ((p0.length:Int) - zz1))))=false) →((!(y1 == (wi ((p0.length:Int) - zz1))))=(!(y1 == (wi ((p0.length:Int) - zz1)))))) ∧((((!(y1 == (wi ((p0.length:Int) - zz1))))=false) →((!(y1 == (wi ((p0.length:Int) - zz1))))=(!(y1 == (wi ((p0.length:Int) - zz1)))))) ∧(((!(y1 == (wi ((p0.length:Int) - zz1))))=(!(y1 == (wi ((p0.length:Int) - zz1))))) ∧((lenOk ((q2_Za p0 y1) :: ((s_Z8 (cond (!(y1 == (wi ((p0.length:Int) - zz1)))) true ((p0.getD y1.toNat (zz0,zz0)).2 == zz0)) zz3) :: ([]:List Int)))) ∧(((((v_first ((q2_Za p0 y1) :: ((s_Z8 (cond (!(y1 == (wi ((p0.length:Int) - zz1)))) true ((p0.getD y1.toNat (zz0,zz0)).2 == zz0)) zz3) :: ([]:List Int)))) != zz0)=true) →(K (y1,(v_first ((q2_Za p0 y1) :: ((s_Z8 (cond (!(y1 == (wi ((p0.length:Int) - zz1)))) true ((p0.getD y1.toNat (zz0,zz0)).2 == zz0)) zz3) :: ([]:List Int))))))) ∧((((v_first ((q2_Za p0 y1) :: ((s_Z8 (cond (!(y1 == (wi ((p0.length:Int) - zz1)))) true ((p0.getD y1.toNat (zz0,zz0)).2 == zz0)) zz3) :: ([]:List Int)))) != zz0)=false) →(k2 (wi (y1 + zz1))))))))))))))) ∧(((decide (y1 < (p0.length:Int)))=false) →(K (zz0,zz0))))) n0 zz0)))))
theorem w_Za_eq (p0:gC) (K:tQA→Prop):tfn F_Za A_Za C_Za P_Za R_Za p0 K = w_Za p0 K := by kernel_rfl
def st_Za_0 (p0:gC) (y1:Int):Int ⊕ tQA := (cond (decide (y1 < (p0.length:Int))) (cond ((v_first ((s_Z8 (cond (s_Zg (p0.getD y1.toNat (0,0)).1 (1:Int) (20:Int)) (s_Zg (p0.getD y1.toNat (0,0)).2 (0:Int) (10:Int)) false) (2:Int)) :: ((s_Z8 (cond (!(y1 == (IntKind.i64.wrap ((p0.length:Int) - 1)))) true ((p0.getD y1.toNat (0,0)).2 == 0)) (3:Int)) :: ([]:List Int)))) != 0) (Sum.inr (y1,(v_first ((s_Z8 (cond (s_Zg (p0.getD y1.toNat (0,0)).1 (1:Int) (20:Int)) (s_Zg (p0.getD y1.toNat (0,0)).2 (0:Int) (10:Int)) false) (2:Int)) :: ((s_Z8 (cond (!(y1 == (IntKind.i64.wrap ((p0.length:Int) - 1)))) true ((p0.getD y1.toNat (0,0)).2 == 0)) (3:Int)) :: ([]:List Int)))))) (Sum.inl (IntKind.i64.wrap (y1 + 1)))) (Sum.inr (0,0)))
abbrev sp_Za_0 (p0:gC) (y1:Int):List Prop := [(((decide (y1 < (p0.length:Int)))=true)→((0:Int)≤y1)),(((decide (y1 < (p0.length:Int)))=true)→(y1 < (p0.length:Int)))]
def s_Za (p0:gC):tQA := (cond ((v_first ((s_Z8 (decide ((p0.length:Int) > 0)) (10:Int)) :: ((s_Z8 (decide ((p0.length:Int)≤4)) (8:Int)) :: ([]:List Int)))) != 0) ((0:Int),(v_first ((s_Z8 (decide ((p0.length:Int) > 0)) (10:Int)) :: ((s_Z8 (decide ((p0.length:Int)≤4)) (8:Int)) :: ([]:List Int))))) (lpv (0,0) (st_Za_0 p0) (0:Int)))
abbrev pre_Za (p0:gC):List Prop := [((((v_first ((s_Z8 (decide ((p0.length:Int) > 0)) (10:Int)) :: ((s_Z8 (decide ((p0.length:Int)≤4)) (8:Int)) :: ([]:List Int)))) != 0)=false)→(OkL (st_Za_0 p0) (sp_Za_0 p0) (0:Int)))]
theorem d_Za (p0:gC) (K:tQA→Prop) (hp:∀ p∈pre_Za p0,p) (h:K (s_Za p0)):w_Za p0 K := by
 unfold w_Za
 unfold s_Za at h
 obtain ⟨hp0,_⟩ := conj_of hp
 exact ⟨(lenOk_of 2 rfl (by decide)),(br' h (fun e0 h => h)
  (fun e0 h => (loop_gen (hp0 e0) h (fun y1 k1 hp h => by
 unfold st_Za_0 at h; obtain ⟨hp0,hp1,_⟩ := conj_of hp
 exact (br' h (fun e2 h => ⟨(hp0 e2),(hp1 e2),rf,rf,rfl,rf,rf,rfl,(lenOk_of 2 rfl (by decide)),(br' h (fun e3 h => h)
  (fun e3 h => h))⟩)
  (fun e2 h => h))))))⟩
theorem l_Za_0 (p0:gC) (hl:p0.length≤4):OkL (st_Za_0 p0) (sp_Za_0 p0) 0∧lpv ((0,0):Int×Int) (st_Za_0 p0) 0 = v_scan (v_cm1 p0.length) (0,0) 0 p0 := by
 refine scan_is p0 (0,0) (v_cm1 p0.length) ((0,0):Int×Int) (lenOk_le hl (by decide)) ?_ ?_
 ·refine ⟨by simp only [sp_Za_0,fM,decide_eq_true_eq]; simp,by simp [st_Za_0]⟩
 ·intro j hj
  have hj' : (j:Int) < p0.length := by omega
  refine ⟨by simp only [sp_Za_0,fM,decide_eq_true_eq,Int.toNat_natCast]; simp [lenOk] <;> omega,?_⟩
  simp only [st_Za_0,hj',decide_true,Int.toNat_natCast,cond_true,wrap_nat (show (j:Int)≤9223372036854775806 by omega),v_cm1]
  rw [wrap_id (n := (p0.length:Int) - 1) (by omega) (by omega)]
  unfold s_Z8
  simp only [tx_withinG]
  cases s_Z4 (p0.getD j (0,0)).1 1 20 <;> cases s_Z4 (p0.getD j (0,0)).2 0 10 <;> cases ((j:Int) == (p0.length:Int) - 1) <;> cases ((p0.getD j (0,0)).2 == 0) <;> rfl
abbrev t_Za (p0:gC):Int×Int := v_cm p0
abbrev qre_Za (_p0:gC):List Prop := []
theorem tx_cmh {n:Int} (h:0≤n):v_first [s_Z8 (decide (n > 0)) 10,s_Z8 (decide (n≤4)) 8]=cond (n == 0) 10 (cond (decide (n > 4)) 8 0) := by
 unfold s_Z8
 rcases int0 n with ⟨h0,_,e0⟩ | ⟨h0,_,e0⟩
 ·subst h0; rfl
 ·rw [e0,decide_eq_true (show n > 0 by omega)]
  rcases dec0 (a := 4) (b := n) with ⟨_,_,_,e1,e2⟩ | ⟨_,_,_,e1,e2⟩ <;> rw [e1,e2] <;> rfl
theorem pp_Za (p0:gC) (_hq:∀ p∈qre_Za p0,p):∀ p∈pre_Za p0,p := by
 simp only [pre_Za,fM]
 refine ⟨fun h => ?_,by simp⟩
 rw [tx_cmh (by omega)] at h
 refine (l_Za_0 p0 ?_).1
 cases c:decide ((p0.length:Int) > 4)
 ·have := of_decide_eq_false c; omega
 ·rw [c] at h
  cases c2:((p0.length:Int) == 0) <;> rw [c2] at h <;> cases h
theorem tt_Za (p0:gC) (_hq:∀ p∈qre_Za p0,p):s_Za p0 = t_Za p0 := by
 unfold s_Za t_Za v_cm
 rw [tx_cmh (by omega)]
 cases h:decide ((p0.length:Int) > 4)
 ·rw [(l_Za_0 p0 (by have := of_decide_eq_false h; omega)).2]
  cases ((p0.length:Int) == 0) <;> rfl
 ·cases ((p0.length:Int) == 0) <;> rfl

abbrev con_Za:Con := ⟨P_Za,R_Za,fun x => qre_Za x,fun x => t_Za x⟩
theorem ok_Za:ConOk Tryz.prog 154 con_Za := okG k_Za e_Za hC_Za fun x hx => tf_of (w_Za_eq x _) (d_Za x _ (pp_Za x hx) (tt_Za x hx))
def C_Zq:Cons := [(154,[],con_Za)]
theorem hC_Zq:ConsOk Tryz.prog C_Zq := cC ok_Za <| ConsOk.nil
def w_Zq (p0:gC) (K:Int→Prop):Prop := (K (v_cm p0).2)
theorem w_Zq_eq (p0:gC) (K:Int→Prop):tfn F_Zq A_Zq C_Zq P_Zq R_Zq p0 K = w_Zq p0 K := by kernel_rfl
def s_Zq (p0:gC):Int := (v_cm p0).2
abbrev pre_Zq (_p0:gC):List Prop := []
theorem d_Zq (p0:gC) (K:Int→Prop) (_hp:∀ p∈pre_Zq p0,p) (h:K (s_Zq p0)):w_Zq p0 K := by
 unfold w_Zq
 unfold s_Zq at h
 exact h
abbrev con_Zq:Con := ⟨P_Zq,R_Zq,fun x => pre_Zq x,fun x => s_Zq x⟩
theorem ok_Zq:ConOk Tryz.prog 98 con_Zq := okG k_Zq e_Zq hC_Zq fun x hx => tf_of (w_Zq_eq x _) (d_Zq x _ hx rfl)
def C_Zc:Cons := [(96,itMark,con_Z18),(97,[],con_Z2),(98,[],con_Zq)]
theorem hC_Zc:ConsOk Tryz.prog C_Zc := ConsOk.consI ok_Z18 <| cC ok_Z2 <| cC ok_Zq <| ConsOk.nil
abbrev q0_Zc (z1:ByteArray) := (v_nms (((⟨#[120]⟩ : ByteArray) :: ([]:List ByteArray)) ++ ((⟨#[]⟩ : ByteArray) :: ([]:List ByteArray))) ([]:List Int) z1)
def w_Zc (p0:ByteArray) (K:((List tQA)×Int)→Prop):Prop := ((((decide ((((ByteArray.size p0):Nat):Int) > 60000))=true) →(K (([]:List tQA),(8:Int)))) ∧(((decide ((((ByteArray.size p0):Nat):Int) > 60000))=false) →(((ByteArray.size p0)≤4611686018427387904) ∧(((ByteArray.size (⟨#[32]⟩ : ByteArray))=1) ∧(RngP (fun (y0:gC) (z1:ByteArray) k2 => (((List.length ((⟨#[120]⟩ : ByteArray) :: ([]:List ByteArray)))≤1000) ∧(((ByteArray.size z1)≤1000000) ∧((((!(q0_Zc z1).2)=true) →(K (([]:List tQA),(7:Int)))) ∧(((!(q0_Zc z1).2)=false) →((zz0 < (((q0_Zc z1).1.length:Nat):Int)) ∧((zz1 < (((q0_Zc z1).1.length:Nat):Int)) ∧((((y0.length + (List.length (((List.getD (q0_Zc z1).1 (Int.toNat zz0) zz0),(List.getD (q0_Zc z1).1 (Int.toNat zz1) zz0)) :: ([]:List tQA)))) * 16)≤140737488355328) ∧(k2 (y0 ++ (((List.getD (q0_Zc z1).1 (Int.toNat zz0) zz0),(List.getD (q0_Zc z1).1 (Int.toNat zz1) zz0)) :: ([]:List tQA)))))))))))) (fun (s3:gC) => (((((v_cm s3).2 != zz0)=true) →(K (([]:List tQA),(v_cm s3).2))) ∧((((v_cm s3).2 != zz0)=false) →(K (s3,zz0))))) (v_pcs p0 (⟨#[32]⟩ : ByteArray)) ([]:List tQA))))))
theorem w_Zc_eq (p0:ByteArray) (K:((List tQA)×Int)→Prop):tfn F_Zc A_Zc C_Zc P_Zc R_Zc p0 K = w_Zc p0 K := by kernel_rfl
def st_Zc_0 (_p0:ByteArray) (y1:gC) (z1:ByteArray):(List tQA) ⊕ ((List tQA)×Int) := (cond (!(v_nms (((⟨#[120]⟩ : ByteArray) :: ([]:List ByteArray)) ++ ((⟨#[]⟩ : ByteArray) :: ([]:List ByteArray))) ([]:List Int) z1).2) (Sum.inr (([]:List tQA),(7:Int))) (Sum.inl (y1 ++ (((List.getD (v_nms (((⟨#[120]⟩ : ByteArray) :: ([]:List ByteArray)) ++ ((⟨#[]⟩ : ByteArray) :: ([]:List ByteArray))) ([]:List Int) z1).1 (Int.toNat (0:Int)) (0:Int)),(List.getD (v_nms (((⟨#[120]⟩ : ByteArray) :: ([]:List ByteArray)) ++ ((⟨#[]⟩ : ByteArray) :: ([]:List ByteArray))) ([]:List Int) z1).1 (Int.toNat (1:Int)) (0:Int))) :: ([]:List tQA)))))
abbrev sp_Zc_0 (_p0:ByteArray) (y1:gC) (z1:ByteArray):List Prop := [((List.length ((⟨#[120]⟩ : ByteArray) :: ([]:List ByteArray)))≤1000),((ByteArray.size z1)≤1000000),(((!(v_nms (((⟨#[120]⟩ : ByteArray) :: ([]:List ByteArray)) ++ ((⟨#[]⟩ : ByteArray) :: ([]:List ByteArray))) ([]:List Int) z1).2)=false)→((0:Int) < (((List.length (v_nms (((⟨#[120]⟩ : ByteArray) :: ([]:List ByteArray)) ++ ((⟨#[]⟩ : ByteArray) :: ([]:List ByteArray))) ([]:List Int) z1).1):Nat):Int))),(((!(v_nms (((⟨#[120]⟩ : ByteArray) :: ([]:List ByteArray)) ++ ((⟨#[]⟩ : ByteArray) :: ([]:List ByteArray))) ([]:List Int) z1).2)=false)→((1:Int) < (((List.length (v_nms (((⟨#[120]⟩ : ByteArray) :: ([]:List ByteArray)) ++ ((⟨#[]⟩ : ByteArray) :: ([]:List ByteArray))) ([]:List Int) z1).1):Nat):Int))),(((!(v_nms (((⟨#[120]⟩ : ByteArray) :: ([]:List ByteArray)) ++ ((⟨#[]⟩ : ByteArray) :: ([]:List ByteArray))) ([]:List Int) z1).2)=false)→(((y1.length + (List.length (((List.getD (v_nms (((⟨#[120]⟩ : ByteArray) :: ([]:List ByteArray)) ++ ((⟨#[]⟩ : ByteArray) :: ([]:List ByteArray))) ([]:List Int) z1).1 (Int.toNat (0:Int)) (0:Int)),(List.getD (v_nms (((⟨#[120]⟩ : ByteArray) :: ([]:List ByteArray)) ++ ((⟨#[]⟩ : ByteArray) :: ([]:List ByteArray))) ([]:List Int) z1).1 (Int.toNat (1:Int)) (0:Int))) :: ([]:List tQA)))) * 16)≤140737488355328))]
def sf_Zc_0 (_p0:ByteArray) (s1:gC):((List tQA)×Int) := (cond ((v_cm s1).2 != 0) (([]:List tQA),(v_cm s1).2) (s1,(0:Int)))
abbrev sq_Zc_0 (_p0:ByteArray) (_s1:gC):List Prop := []
def s_Zc (p0:ByteArray):((List tQA)×Int) := (cond (decide ((((ByteArray.size p0):Nat):Int) > 60000)) (([]:List tQA),(8:Int)) (rngV (st_Zc_0 p0) (sf_Zc_0 p0) (v_pcs p0 (⟨#[32]⟩ : ByteArray)) ([]:List tQA)))
abbrev pre_Zc (p0:ByteArray):List Prop := [(((decide ((((ByteArray.size p0):Nat):Int) > 60000))=false)→((ByteArray.size p0)≤4611686018427387904)),(((decide ((((ByteArray.size p0):Nat):Int) > 60000))=false)→((ByteArray.size (⟨#[32]⟩ : ByteArray))=1)),(((decide ((((ByteArray.size p0):Nat):Int) > 60000))=false)→(OkR (st_Zc_0 p0) (sp_Zc_0 p0) (sq_Zc_0 p0) (v_pcs p0 (⟨#[32]⟩ : ByteArray)) ([]:List tQA)))]
theorem d_Zc (p0:ByteArray) (K:((List tQA)×Int)→Prop) (hp:∀ p∈pre_Zc p0,p) (h:K (s_Zc p0)):w_Zc p0 K := by
 unfold w_Zc
 unfold s_Zc at h
 obtain ⟨hp0,hp1,hp2,_⟩ := conj_of hp
 exact (br' h (fun e0 h => h)
  (fun e0 h => ⟨(hp0 e0),(hp1 e0),(rng_gen (hp2 e0) h (fun y1 z1 k1 hp h => by
 unfold st_Zc_0 at h; obtain ⟨hp0,hp1,hp2,hp3,hp4,_⟩ := conj_of hp
 exact ⟨(hp0),(hp1),(br' h (fun e2 h => h)
  (fun e2 h => ⟨(hp2 e2),(hp3 e2),(hp4 e2),h⟩))⟩) (fun s1 hp h => by
 unfold sf_Zc_0 at h
 exact (br' h (fun e3 h => h)
  (fun e3 h => h))))⟩))
theorem tx_Zc (z:ByteArray):v_nms (((⟨#[120]⟩ : ByteArray) :: ([]:List ByteArray)) ++ ((⟨#[]⟩ : ByteArray) :: ([]:List ByteArray))) ([]:List Int) z = match v_opt2 z 120 with | some (a,b) => ([a,b],true) | none => ([],false) := v_nms_two (x := 120) rfl [] z
theorem l_Zc_0 (p0:ByteArray) (hs:p0.size≤60000):OkR (st_Zc_0 p0) (sp_Zc_0 p0) (sq_Zc_0 p0) (v_pcs p0 (⟨#[32]⟩ : ByteArray)) []∧rngV (st_Zc_0 p0) (sf_Zc_0 p0) (v_pcs p0 (⟨#[32]⟩ : ByteArray)) []=v_prsl (fun w => v_opt2 w 120) (fun l => (v_cm l).2) (v_ct p0 32) := by
 have hp:v_pcs p0 (⟨#[32]⟩ : ByteArray)=v_ct p0 32 := v_pcs_ct p0 32
 rw [hp]
 refine prs_rng (f := (fun w => v_opt2 w 120)) (e := (fun l => (v_cm l).2)) (fun y z => ?_) (fun y => rfl) (fun y z hy hz => ?_) (fun y => by unfold sq_Zc_0; simp) _ (by have := v_ct_len p0 32; omega) (fun z hz => Nat.le_trans (v_ct_mem hz) hs)
 ·unfold st_Zc_0
  rw [tx_Zc]
  cases v_opt2 z 120 <;> rfl
 ·unfold sp_Zc_0
  rw [tx_Zc]
  simp only [fM]
  cases v_opt2 z 120 with
  | none =>
   and_intros
   all_goals first | omega | (intro h; cases h) | (simp; done)
  | some x =>
   and_intros
   all_goals first | omega | (simp; done) | (intro _; simp only [List.length_cons,List.length_nil]; omega)
abbrev t_Zc (p0:ByteArray):List tQA×Int := v_prs (fun w => v_opt2 w 120) (fun l => (v_cm l).2) p0
abbrev qre_Zc (_p0:ByteArray):List Prop := []
theorem pp_Zc (p0:ByteArray) (_hq:∀ p∈qre_Zc p0,p):∀ p∈pre_Zc p0,p := by
 simp only [pre_Zc,fM]
 refine ⟨fun h => ?_,fun _ => rfl,fun h => (l_Zc_0 p0 ?_).1,by simp⟩
 ·have := of_decide_eq_false h; omega
 ·have := of_decide_eq_false h; omega
theorem tt_Zc (p0:ByteArray) (_hq:∀ p∈qre_Zc p0,p):s_Zc p0 = t_Zc p0 := by
 unfold s_Zc t_Zc v_prs
 cases h:decide ((p0.size:Int) > 60000) with
 | true => rfl
 | false => rw [(l_Zc_0 p0 (by have := of_decide_eq_false h; omega)).2]

abbrev con_Zc:Con := ⟨P_Zc,R_Zc,fun x => qre_Zc x,fun x => t_Zc x⟩
theorem ok_Zc:ConOk Tryz.prog 28 con_Zc := okG k_Zc e_Zc hC_Zc fun x hx => tf_of (w_Zc_eq x _) (d_Zc x _ (pp_Zc x hx) (tt_Zc x hx))
def C_Z10:Cons := [(8,[],con_Z4)]
theorem hC_Z10:ConsOk Tryz.prog C_Z10 := cC ok_Z4 <| ConsOk.nil
def w_Z10 (p0:Int) (K:Int→Prop):Prop := ((((!(s_Z4 p0 zz1 (20:Int)))=true) →(K (2:Int))) ∧(((!(s_Z4 p0 zz1 (20:Int)))=false) →(K zz0)))
theorem w_Z10_eq (p0:Int) (K:Int→Prop):tfn F_Z10 A_Z10 C_Z10 P_Z10 R_Z10 p0 K = w_Z10 p0 K := by kernel_rfl
def s_Z10 (p0:Int):Int := (cond (!(s_Z4 p0 (1:Int) (20:Int))) (2:Int) (0:Int))
abbrev pre_Z10 (_p0:Int):List Prop := []
theorem d_Z10 (p0:Int) (K:Int→Prop) (_hp:∀ p∈pre_Z10 p0,p) (h:K (s_Z10 p0)):w_Z10 p0 K := by
 unfold w_Z10
 unfold s_Z10 at h
 exact (br' h (fun e0 h => h)
  (fun e0 h => h))
abbrev con_Z10:Con := ⟨P_Z10,R_Z10,fun x => pre_Z10 x,fun x => s_Z10 x⟩
theorem ok_Z10:ConOk Tryz.prog 59 con_Z10 := okG k_Z10 e_Z10 hC_Z10 fun x hx => tf_of (w_Z10_eq x _) (d_Z10 x _ hx rfl)
def C_Z1:Cons := [(59,[],con_Z10),(8,[],con_Z4)]
theorem hC_Z1:ConsOk Tryz.prog C_Z1 := cC ok_Z10 <| cC ok_Z4 <| ConsOk.nil
abbrev q2_Z1 (p0:gB) (y1:Int) := ((cond (!(s_Z4 (p0.getD y1.toNat (zz0,(zz0,zz0))).1 zz1 (20:Int))) zz2 zz0) != zz0)
abbrev q0_Z1 (p0:gB) (y1:Int) := (cond (q2_Z1 p0 y1) true (!(s_Z4 (p0.getD y1.toNat (zz0,(zz0,zz0))).2.1 zz0 (100000:Int))))
abbrev q1_Z1 (p0:gB) (y1:Int) := (decide ((p0.getD y1.toNat (zz0,(zz0,zz0))).2.1 > (p0.getD y1.toNat (zz0,(zz0,zz0))).2.2))
abbrev q3_Z1 (p0:gB) (y1:Int) := (((!(q1_Z1 p0 y1)) && (decide (y1 > zz0)))=((!(q1_Z1 p0 y1)) && (decide (y1 > zz0))))
abbrev q4_Z1 (p0:gB) (y1:Int) := (((!(q1_Z1 p0 y1)) && (decide (y1 > zz0)))=true)
def w_Z1 (p0:gB) (K:tQA→Prop):Prop := (((((p0.length:Int) == zz0)=true) →(K (zz0,(10:Int)))) ∧((((p0.length:Int) == zz0)=false) →((((decide ((p0.length:Int) > 6))=true) →(K (zz0,(8:Int)))) ∧(((decide ((p0.length:Int) > 6))=false) →(∃ n0,(loopP (fun (y1:Int) k2 => ((((decide (y1 < (p0.length:Int)))=true) →((zz0≤y1) ∧((y1 < (p0.length:Int)) ∧((((q2_Z1 p0 y1)=false) →((q2_Z1 p0 y1)=(q2_Z1 p0 y1))) ∧((((q2_Z1 p0 y1)=false) →((q2_Z1 p0 y1)=(q2_Z1 p0 y1))) ∧((((q2_Z1 p0 y1)=false) →(zz0≤y1)) ∧((((q2_Z1 p0 y1)=false) →(y1 < (p0.length:Int))) ∧((((q2_Z1 p0 y1)=false) →((q2_Z1 p0 y1)=(q2_Z1 p0 y1))) ∧((((q2_Z1 p0 y1)=false) →((q2_Z1 p0 y1)=(q2_Z1 p0 y1))) ∧((((q2_Z1 p0 y1)=false) →((q2_Z1 p0 y1)=(q2_Z1 p0 y1))) ∧((((q2_Z1 p0 y1)=false) →((q2_Z1 p0 y1)=(q2_Z1 p0 y1))) ∧((((q2_Z1 p0 y1)=false) →((q2_Z1 p0 y1)=(q2_Z1 p0 y1))) ∧(((q2_Z1 p0 y1)=(q2_Z1 p0 y1)) ∧((((q0_Z1 p0 y1)=false) →((q0_Z1 p0 y1)=(q0_Z1 p0 y1))) ∧((((q0_Z1 p0 y1)=false) →((q0_Z1 p0 y1)=(q0_Z1 p0 y1))) ∧((((q0_Z1 p0 y1)=false) →(zz0≤y1)) ∧((((q0_Z1 p0 y1)=false) →(y1 < (p0.length:Int))) ∧((((q0_Z1 p0 y1)=false) →((q0_Z1 p0 y1)=(q0_Z1 p0 y1))) ∧((((q0_Z1 p0 y1)=false) →((q0_Z1 p0 y1)=(q0_Z1 p0 y1))) ∧((((q0_Z1 p0 y1)=false) →((q0_Z1 p0 y1)=(q0_Z1 p0 y1))) ∧((((q0_Z1 p0 y1)=false) →((q0_Z1 p0 y1)=(q0_Z1 p0 y1))) ∧((((q0_Z1 p0 y1)=false) →((q0_Z1 p0 y1)=(q0_Z1 p0 y1))) ∧(((q0_Z1 p0 y1)=(q0_Z1 p0 y1)) ∧((((cond (q0_Z1 p0 y1) true (!(s_Z4 (p0.getD y1.toNat (zz0,(zz0,zz0))).2.2 zz0 (100000:Int))))=true) →(K (y1,zz2))) ∧(((cond (q0_Z1 p0 y1) true (!(s_Z4 (p0.getD y1.toNat (zz0,(zz0,zz0))).2.2 zz0 (100000:Int))))=false) →((zz0≤y1) ∧((y1 < (p0.length:Int)) ∧((zz0≤y1) ∧((y1 < (p0.length:Int)) ∧((((q1_Z1 p0 y1)=false) →((q1_Z1 p0 y1)=(q1_Z1 p0 y1))) ∧((((q1_Z1 p0 y1)=false) →((q1_Z1 p0 y1)=(q1_Z1 p0 y1))) ∧(((q4_Z1 p0 y1) →(q3_Z1 p0 y1)) ∧(((q4_Z1 p0 y1) →(q3_Z1 p0 y1)) ∧(((q4_Z1 p0 y1) →(zz0≤y1)) ∧(((q4_Z1 p0 y1) →(y1 < (p0.length:Int))) ∧(((q4_Z1 p0 y1) →(q3_Z1 p0 y1)) ∧(((q4_Z1 p0 y1) →(q3_Z1 p0 y1)) ∧(((q4_Z1 p0 y1) →(q3_Z1 p0 y1)) ∧(((q4_Z1 p0 y1) →(q3_Z1 p0 y1)) ∧(((q4_Z1 p0 y1) →(q3_Z1 p0 y1)) ∧(((q4_Z1 p0 y1) →(zz0≤(wi (y1 - zz1)))) ∧(((q4_Z1 p0 y1) →((wi (y1 - zz1)) < (p0.length:Int))) ∧(((q4_Z1 p0 y1) →(q3_Z1 p0 y1)) ∧(((q4_Z1 p0 y1) →(q3_Z1 p0 y1)) ∧(((q4_Z1 p0 y1) →(q3_Z1 p0 y1)) ∧(((q4_Z1 p0 y1) →(q3_Z1 p0 y1)) ∧((((q1_Z1 p0 y1)=false) →((q1_Z1 p0 y1)=(q1_Z1 p0 y1))) ∧((((q1_Z1 p0 y1)=false) →(((!(q1_Z1 p0 y1)) && (decide (y1 > zz0)))=(decide (y1 > zz0)))) ∧(((q1_Z1 p0 y1)=(q1_Z1 p0 y1)) ∧((((cond (q1_Z1 p0 y1) true (cond (decide (y1 > zz0)) (decide ((p0.getD y1.toNat (zz0,(zz0,zz0))).1≤(p0.getD (Int.toNat (wi (y1 - zz1))) (zz0,(zz0,zz0))).1)) false))=true) →(K (y1,(9:Int)))) ∧(((cond (q1_Z1 p0 y1) true (cond (decide (y1 > zz0)) (decide ((p0.getD y1.toNat (zz0,(zz0,zz0))).1≤(p0.getD (Int.toNat (wi (y1 - zz1))) (zz0,(zz0,zz0))).1)) false))=false) →(k2 (wi (y1 + zz1)))))))))))))))))))))))))))))))))))))))))))))))))))))) ∧(((decide (y1 < (p0.length:Int)))=false) →(K (zz0,zz0))))) n0 zz0))))))
theorem w_Z1_eq (p0:gB) (K:tQA→Prop):tfn F_Z1 A_Z1 C_Z1 P_Z1 R_Z1 p0 K = w_Z1 p0 K := by kernel_rfl
def st_Z1_0 (p0:gB) (y2:Int):Int ⊕ tQA := (cond (decide (y2 < (p0.length:Int))) (cond (cond (cond ((cond (!(s_Z4 (p0.getD y2.toNat ((0:Int),(0,0))).1 (1:Int) (20:Int))) (2:Int) (0:Int)) != 0) true (!(s_Z4 (p0.getD y2.toNat ((0:Int),(0,0))).2.1 (0:Int) (100000:Int)))) true (!(s_Z4 (p0.getD y2.toNat ((0:Int),(0,0))).2.2 (0:Int) (100000:Int)))) (Sum.inr (y2,(2:Int))) (cond (cond (decide ((p0.getD y2.toNat ((0:Int),(0,0))).2.1 > (p0.getD y2.toNat ((0:Int),(0,0))).2.2)) true (cond (decide (y2 > 0)) (decide ((p0.getD y2.toNat ((0:Int),(0,0))).1≤(p0.getD (Int.toNat (IntKind.i64.wrap (y2 - 1))) ((0:Int),(0,0))).1)) false)) (Sum.inr (y2,(9:Int))) (Sum.inl (IntKind.i64.wrap (y2 + 1))))) (Sum.inr (0,0)))
abbrev sp_Z1_0 (p0:gB) (y2:Int):List Prop := [(((decide (y2 < (p0.length:Int)))=true)→((0:Int)≤y2)),(((decide (y2 < (p0.length:Int)))=true)→(y2 < (p0.length:Int))),(((decide (y2 < (p0.length:Int)))=true)→((((cond (!(s_Z4 (p0.getD y2.toNat ((0:Int),(0,0))).1 (1:Int) (20:Int))) (2:Int) (0:Int)) != 0)=false)→((0:Int)≤y2))),(((decide (y2 < (p0.length:Int)))=true)→((((cond (!(s_Z4 (p0.getD y2.toNat ((0:Int),(0,0))).1 (1:Int) (20:Int))) (2:Int) (0:Int)) != 0)=false)→(y2 < (p0.length:Int)))),(((decide (y2 < (p0.length:Int)))=true)→(((cond ((cond (!(s_Z4 (p0.getD y2.toNat ((0:Int),(0,0))).1 (1:Int) (20:Int))) (2:Int) (0:Int)) != 0) true (!(s_Z4 (p0.getD y2.toNat ((0:Int),(0,0))).2.1 (0:Int) (100000:Int))))=false)→((0:Int)≤y2))),(((decide (y2 < (p0.length:Int)))=true)→(((cond ((cond (!(s_Z4 (p0.getD y2.toNat ((0:Int),(0,0))).1 (1:Int) (20:Int))) (2:Int) (0:Int)) != 0) true (!(s_Z4 (p0.getD y2.toNat ((0:Int),(0,0))).2.1 (0:Int) (100000:Int))))=false)→(y2 < (p0.length:Int)))),(((decide (y2 < (p0.length:Int)))=true)→(((cond (cond ((cond (!(s_Z4 (p0.getD y2.toNat ((0:Int),(0,0))).1 (1:Int) (20:Int))) (2:Int) (0:Int)) != 0) true (!(s_Z4 (p0.getD y2.toNat ((0:Int),(0,0))).2.1 (0:Int) (100000:Int)))) true (!(s_Z4 (p0.getD y2.toNat ((0:Int),(0,0))).2.2 (0:Int) (100000:Int))))=false)→((0:Int)≤y2))),(((decide (y2 < (p0.length:Int)))=true)→(((cond (cond ((cond (!(s_Z4 (p0.getD y2.toNat ((0:Int),(0,0))).1 (1:Int) (20:Int))) (2:Int) (0:Int)) != 0) true (!(s_Z4 (p0.getD y2.toNat ((0:Int),(0,0))).2.1 (0:Int) (100000:Int)))) true (!(s_Z4 (p0.getD y2.toNat ((0:Int),(0,0))).2.2 (0:Int) (100000:Int))))=false)→(y2 < (p0.length:Int)))),(((decide (y2 < (p0.length:Int)))=true)→(((cond (cond ((cond (!(s_Z4 (p0.getD y2.toNat ((0:Int),(0,0))).1 (1:Int) (20:Int))) (2:Int) (0:Int)) != 0) true (!(s_Z4 (p0.getD y2.toNat ((0:Int),(0,0))).2.1 (0:Int) (100000:Int)))) true (!(s_Z4 (p0.getD y2.toNat ((0:Int),(0,0))).2.2 (0:Int) (100000:Int))))=false)→((((!(decide ((p0.getD y2.toNat ((0:Int),(0,0))).2.1 > (p0.getD y2.toNat ((0:Int),(0,0))).2.2))) && (decide (y2 > 0)))=true)→((0:Int)≤y2)))),(((decide (y2 < (p0.length:Int)))=true)→(((cond (cond ((cond (!(s_Z4 (p0.getD y2.toNat ((0:Int),(0,0))).1 (1:Int) (20:Int))) (2:Int) (0:Int)) != 0) true (!(s_Z4 (p0.getD y2.toNat ((0:Int),(0,0))).2.1 (0:Int) (100000:Int)))) true (!(s_Z4 (p0.getD y2.toNat ((0:Int),(0,0))).2.2 (0:Int) (100000:Int))))=false)→((((!(decide ((p0.getD y2.toNat ((0:Int),(0,0))).2.1 > (p0.getD y2.toNat ((0:Int),(0,0))).2.2))) && (decide (y2 > 0)))=true)→(y2 < (p0.length:Int))))),(((decide (y2 < (p0.length:Int)))=true)→(((cond (cond ((cond (!(s_Z4 (p0.getD y2.toNat ((0:Int),(0,0))).1 (1:Int) (20:Int))) (2:Int) (0:Int)) != 0) true (!(s_Z4 (p0.getD y2.toNat ((0:Int),(0,0))).2.1 (0:Int) (100000:Int)))) true (!(s_Z4 (p0.getD y2.toNat ((0:Int),(0,0))).2.2 (0:Int) (100000:Int))))=false)→((((!(decide ((p0.getD y2.toNat ((0:Int),(0,0))).2.1 > (p0.getD y2.toNat ((0:Int),(0,0))).2.2))) && (decide (y2 > 0)))=true)→((0:Int)≤(IntKind.i64.wrap (y2 - 1)))))),(((decide (y2 < (p0.length:Int)))=true)→(((cond (cond ((cond (!(s_Z4 (p0.getD y2.toNat ((0:Int),(0,0))).1 (1:Int) (20:Int))) (2:Int) (0:Int)) != 0) true (!(s_Z4 (p0.getD y2.toNat ((0:Int),(0,0))).2.1 (0:Int) (100000:Int)))) true (!(s_Z4 (p0.getD y2.toNat ((0:Int),(0,0))).2.2 (0:Int) (100000:Int))))=false)→((((!(decide ((p0.getD y2.toNat ((0:Int),(0,0))).2.1 > (p0.getD y2.toNat ((0:Int),(0,0))).2.2))) && (decide (y2 > 0)))=true)→((IntKind.i64.wrap (y2 - 1)) < (p0.length:Int))))),(((decide (y2 < (p0.length:Int)))=true)→(((cond (cond ((cond (!(s_Z4 (p0.getD y2.toNat ((0:Int),(0,0))).1 (1:Int) (20:Int))) (2:Int) (0:Int)) != 0) true (!(s_Z4 (p0.getD y2.toNat ((0:Int),(0,0))).2.1 (0:Int) (100000:Int)))) true (!(s_Z4 (p0.getD y2.toNat ((0:Int),(0,0))).2.2 (0:Int) (100000:Int))))=false)→(((decide ((p0.getD y2.toNat ((0:Int),(0,0))).2.1 > (p0.getD y2.toNat ((0:Int),(0,0))).2.2))=false)→(((!(decide ((p0.getD y2.toNat ((0:Int),(0,0))).2.1 > (p0.getD y2.toNat ((0:Int),(0,0))).2.2))) && (decide (y2 > 0)))=(decide (y2 > 0))))))]
def s_Z1 (p0:gB):tQA := (cond ((p0.length:Int) == 0) ((0:Int),(10:Int)) (cond (decide ((p0.length:Int) > 6)) ((0:Int),(8:Int)) (lpv (0,0) (st_Z1_0 p0) (0:Int))))
abbrev pre_Z1 (p0:gB):List Prop := [((((p0.length:Int) == 0)=false)→(((decide ((p0.length:Int) > 6))=false)→(OkL (st_Z1_0 p0) (sp_Z1_0 p0) (0:Int))))]
theorem d_Z1 (p0:gB) (K:tQA→Prop) (hp:∀ p∈pre_Z1 p0,p) (h:K (s_Z1 p0)):w_Z1 p0 K := by
 unfold w_Z1
 unfold s_Z1 at h
 obtain ⟨hp0,_⟩ := conj_of hp
 exact (br' h (fun e0 h => h)
  (fun e0 h => (br' h (fun e1 h => h)
  (fun e1 h => (loop_gen (hp0 e0 e1) h (fun y2 k2 hp h => by
 unfold st_Z1_0 at h; obtain ⟨hp0,hp1,hp2,hp3,hp4,hp5,hp6,hp7,hp8,hp9,hp10,hp11,hp12,_⟩ := conj_of hp
 exact (br' h (fun e3 h => ⟨(hp0 e3),(hp1 e3),rf,rf,(hp2 e3),(hp3 e3),rf,rf,rf,rf,rf,rfl,rf,rf,(hp4 e3),(hp5 e3),rf,rf,rf,rf,rf,rfl,(br' h (fun e4 h => h)
  (fun e4 h => ⟨(hp6 e3 e4),(hp7 e3 e4),(hp6 e3 e4),(hp7 e3 e4),rf,rf,rf,rf,(hp8 e3 e4),(hp9 e3 e4),rf,rf,rf,rf,rf,(hp10 e3 e4),(hp11 e3 e4),rf,rf,rf,rf,rf,(hp12 e3 e4),rfl,(br' h (fun e5 h => h)
  (fun e5 h => h))⟩))⟩)
  (fun e3 h => h))))))))
/-- What is wrong with a datum; with data. -/
def v_cd1 (l:gB) (i:Int) (x:Int×Int×Int):Option tQA := cond (cond (s_Z4 x.1 1 20) (cond (s_Z4 x.2.1 0 100000) (s_Z4 x.2.2 0 100000) false) false) (cond (cond (decide (x.2.1≤x.2.2)) (cond (i == 0) true (decide (x.1 > (l.getD (i - 1).toNat (0,0,0)).1))) false) none (some (i,9))) (some (i,2))
def v_cd (l:gB):Int×Int := cond ((l.length:Int) == 0) (0,10) (cond (decide ((l.length:Int) > 6)) (0,8) (v_scan (v_cd1 l) (0,0) 0 l))
theorem l_Z1_0 (p0:gB) (hl:lenOk p0):OkL (st_Z1_0 p0) (sp_Z1_0 p0) 0∧lpv ((0,0):Int×Int) (st_Z1_0 p0) 0 = v_scan (v_cd1 p0) ((0,0):Int×Int) 0 p0 := by
 refine scan_is p0 (0,0,0) (v_cd1 p0) ((0,0):Int×Int) hl ?_ ?_
 ·refine ⟨by simp only [sp_Z1_0,fM,decide_eq_true_eq]; simp,by simp [st_Z1_0]⟩
 ·intro j hj
  have hj' : (j:Int) < p0.length := by omega
  have hw := wrap_nat (show (j:Int)≤9223372036854775806 by unfold lenOk at hl; omega)
  have hw2:IntKind.i64.wrap ((j:Int) - 1)=(j:Int) - 1 := wrap_id (by omega) (by unfold lenOk at hl; omega)
  refine ⟨by simp only [sp_Z1_0,fM,decide_eq_true_eq,Int.toNat_natCast]; rw [hw2]; and_intros <;> first | (intro p hp; cases hp; done) | (intros; first | omega | (simp_all; done) | (simp_all; omega)),?_⟩
  simp only [st_Z1_0,hj',decide_true,Int.toNat_natCast,cond_true,hw]
  unfold v_cd1
  rw [hw2]
  rcases int0 (j:Int) with ⟨hj0,_,z⟩ | ⟨hj0,_,z⟩ <;> rw [z]
  ·rw [decide_eq_false (show ¬ (j:Int) > 0 by omega)]
   rcases dec0 (a := (p0.getD j (0,0,0)).2.2) (b := (p0.getD j (0,0,0)).2.1) with ⟨_,_,_,d3,d4⟩ | ⟨_,_,_,d3,d4⟩ <;> rw [d4] <;> simp only [d3] <;> cases s_Z4 (p0.getD j (0,0,0)).1 1 20 <;> cases s_Z4 (p0.getD j (0,0,0)).2.1 0 100000 <;> cases s_Z4 (p0.getD j (0,0,0)).2.2 0 100000 <;> rfl
  ·rw [decide_eq_true (show (j:Int) > 0 by omega)]
   rcases dec0 (a := (p0.getD j (0,0,0)).2.2) (b := (p0.getD j (0,0,0)).2.1) with ⟨_,_,_,d3,d4⟩ | ⟨_,_,_,d3,d4⟩ <;> rw [d4] <;> simp only [d3] <;> rcases dec0 (a := (p0.getD ((j:Int) - 1).toNat (0,0,0)).1) (b := (p0.getD j (0,0,0)).1) with ⟨_,c1,c2,c3,c4⟩ | ⟨_,c1,c2,c3,c4⟩ <;> simp only [c3,c4] <;> cases s_Z4 (p0.getD j (0,0,0)).1 1 20 <;> cases s_Z4 (p0.getD j (0,0,0)).2.1 0 100000 <;> cases s_Z4 (p0.getD j (0,0,0)).2.2 0 100000 <;> rfl
abbrev t_Z1 (p0:gB):Int×Int := v_cd p0
abbrev qre_Z1 (_p0:gB):List Prop := []
theorem pp_Z1 (p0:gB) (_hq:∀ p∈qre_Z1 p0,p):∀ p∈pre_Z1 p0,p := by
 simp only [pre_Z1,fM]
 exact ⟨fun _ h => (l_Z1_0 p0 (lenOk_le (n := 6) (by have := of_decide_eq_false h; omega) (by decide))).1,by simp⟩
theorem tt_Z1 (p0:gB) (_hq:∀ p∈qre_Z1 p0,p):s_Z1 p0 = t_Z1 p0 := by
 unfold s_Z1 t_Z1 v_cd
 cases h:decide ((p0.length:Int) > 6)
 ·rw [(l_Z1_0 p0 (lenOk_le (n := 6) (by have := of_decide_eq_false h; omega) (by decide))).2]
 ·rfl

abbrev con_Z1:Con := ⟨P_Z1,R_Z1,fun x => qre_Z1 x,fun x => t_Z1 x⟩
theorem ok_Z1:ConOk Tryz.prog 105 con_Z1 := okG k_Z1 e_Z1 hC_Z1 fun x hx => tf_of (w_Z1_eq x _) (d_Z1 x _ (pp_Z1 x hx) (tt_Z1 x hx))
def C_Zs:Cons := [(118,[],con_Zg),(117,[],con_Z8)]
theorem hC_Zs:ConsOk Tryz.prog C_Zs := cC ok_Zg <| cC ok_Z8 <| ConsOk.nil
def w_Zs (p0:Int) (K:Int→Prop):Prop := (K (s_Z8 (s_Zg p0 zz1 (20:Int)) (2:Int)))
theorem w_Zs_eq (p0:Int) (K:Int→Prop):tfn F_Zs A_Zs C_Zs P_Zs R_Zs p0 K = w_Zs p0 K := by kernel_rfl
def s_Zs (p0:Int):Int := (s_Z8 (s_Zg p0 (1:Int) (20:Int)) (2:Int))
abbrev pre_Zs (_p0:Int):List Prop := []
theorem d_Zs (p0:Int) (K:Int→Prop) (_hp:∀ p∈pre_Zs p0,p) (h:K (s_Zs p0)):w_Zs p0 K := by
 unfold w_Zs
 unfold s_Zs at h
 exact h
abbrev con_Zs:Con := ⟨P_Zs,R_Zs,fun x => pre_Zs x,fun x => s_Zs x⟩
theorem ok_Zs:ConOk Tryz.prog 122 con_Zs := okG k_Zs e_Zs hC_Zs fun x hx => tf_of (w_Zs_eq x _) (d_Zs x _ hx rfl)
def C_Zv:Cons := [(118,[],con_Zg)]
theorem hC_Zv:ConsOk Tryz.prog C_Zv := cC ok_Zg <| ConsOk.nil
def w_Zv (p0:Int) (K:Bool→Prop):Prop := (K (s_Zg p0 zz0 (100000:Int)))
theorem w_Zv_eq (p0:Int) (K:Bool→Prop):tfn F_Zv A_Zv C_Zv P_Zv R_Zv p0 K = w_Zv p0 K := by kernel_rfl
def s_Zv (p0:Int):Bool := (s_Zg p0 (0:Int) (100000:Int))
abbrev pre_Zv (_p0:Int):List Prop := []
theorem d_Zv (p0:Int) (K:Bool→Prop) (_hp:∀ p∈pre_Zv p0,p) (h:K (s_Zv p0)):w_Zv p0 K := by
 unfold w_Zv
 unfold s_Zv at h
 exact h
abbrev con_Zv:Con := ⟨P_Zv,R_Zv,fun x => pre_Zv x,fun x => s_Zv x⟩
theorem ok_Zv:ConOk Tryz.prog 200 con_Zv := okG k_Zv e_Zv hC_Zv fun x hx => tf_of (w_Zv_eq x _) (d_Zv x _ hx rfl)
def C_Z5:Cons := [(117,[],con_Z8),(121,[],con_Zj),(122,[],con_Zs),(200,[],con_Zv)]
theorem hC_Z5:ConsOk Tryz.prog C_Z5 := cC ok_Z8 <| cC ok_Zj <| cC ok_Zs <| cC ok_Zv <| ConsOk.nil
abbrev q1_Z5 (p0:gB) (y1:Int) := (p0.getD y1.toNat (zz0,(zz0,zz0)))
abbrev q0_Z5 (p0:gB) (y1:Int) := (s_Zg (q1_Z5 p0 y1).2.1 zz0 (100000:Int))
abbrev q2_Z5 (p0:gB) := ((s_Z8 (decide ((p0.length:Int) > zz0)) (10:Int)) :: ((s_Z8 (decide ((p0.length:Int)≤6)) (8:Int)) :: ([]:List Int)))
abbrev q3_Z5 (p0:gB) (y1:Int) := (s_Z8 (cond (q0_Z5 p0 y1) (s_Zg (q1_Z5 p0 y1).2.2 zz0 (100000:Int)) false) zz2)
def w_Z5 (p0:gB) (K:tQA→Prop):Prop := ((lenOk (q2_Z5 p0)) ∧(((((v_first (q2_Z5 p0)) != zz0)=true) →(K (zz0,(v_first (q2_Z5 p0))))) ∧((((v_first (q2_Z5 p0)) != zz0)=false) →(∃ n0,(loopP (fun (y1:Int) k2 => ((((decide (y1 < (p0.length:Int)))=true) →((zz0≤y1) ∧((y1 < (p0.length:Int)) ∧((((y1 == zz0)=false) →((y1 == zz0)=(y1 == zz0))) ∧((((y1 == zz0)=false) →((y1 == zz0)=(y1 == zz0))) ∧((((y1 == zz0)=false) →((y1 == zz0)=(y1 == zz0))) ∧((((y1 == zz0)=false) →((y1 == zz0)=(y1 == zz0))) ∧((((y1 == zz0)=false) →(zz0≤(wi (y1 - zz1)))) ∧((((y1 == zz0)=false) →((wi (y1 - zz1)) < (p0.length:Int))) ∧((((y1 == zz0)=false) →((y1 == zz0)=(y1 == zz0))) ∧((((y1 == zz0)=false) →((y1 == zz0)=(y1 == zz0))) ∧((((y1 == zz0)=false) →((y1 == zz0)=(y1 == zz0))) ∧((((y1 == zz0)=false) →((y1 == zz0)=(y1 == zz0))) ∧(((y1 == zz0)=(y1 == zz0)) ∧((((q0_Z5 p0 y1)=true) →((q0_Z5 p0 y1)=(q0_Z5 p0 y1))) ∧((((q0_Z5 p0 y1)=true) →((q0_Z5 p0 y1)=(q0_Z5 p0 y1))) ∧((((q0_Z5 p0 y1)=true) →((q0_Z5 p0 y1)=(q0_Z5 p0 y1))) ∧((((q0_Z5 p0 y1)=true) →((q0_Z5 p0 y1)=(q0_Z5 p0 y1))) ∧(((q0_Z5 p0 y1)=(q0_Z5 p0 y1)) ∧(((decide ((q1_Z5 p0 y1).2.1≤(q1_Z5 p0 y1).2.2))=(decide ((q1_Z5 p0 y1).2.1≤(q1_Z5 p0 y1).2.2))) ∧((lenOk ((s_Z8 (s_Zg (q1_Z5 p0 y1).1 zz1 (20:Int)) zz2) :: ((q3_Z5 p0 y1) :: ((s_Z8 (cond (decide ((q1_Z5 p0 y1).2.1≤(q1_Z5 p0 y1).2.2)) (cond (y1 == zz0) true (decide ((q1_Z5 p0 y1).1 > (p0.getD (Int.toNat (wi (y1 - zz1))) (zz0,(zz0,zz0))).1))) false) (9:Int)) :: ([]:List Int))))) ∧(((((v_first ((s_Z8 (s_Zg (q1_Z5 p0 y1).1 zz1 (20:Int)) zz2) :: ((q3_Z5 p0 y1) :: ((s_Z8 (cond (decide ((q1_Z5 p0 y1).2.1≤(q1_Z5 p0 y1).2.2)) (cond (y1 == zz0) true (decide ((q1_Z5 p0 y1).1 > (p0.getD (Int.toNat (wi (y1 - zz1))) (zz0,(zz0,zz0))).1))) false) (9:Int)) :: ([]:List Int))))) != zz0)=true) →(K (y1,(v_first ((s_Z8 (s_Zg (q1_Z5 p0 y1).1 zz1 (20:Int)) zz2) :: ((q3_Z5 p0 y1) :: ((s_Z8 (cond (decide ((q1_Z5 p0 y1).2.1≤(q1_Z5 p0 y1).2.2)) (cond (y1 == zz0) true (decide ((q1_Z5 p0 y1).1 > (p0.getD (Int.toNat (wi (y1 - zz1))) (zz0,(zz0,zz0))).1))) false) (9:Int)) :: ([]:List Int)))))))) ∧((((v_first ((s_Z8 (s_Zg (q1_Z5 p0 y1).1 zz1 (20:Int)) zz2) :: ((q3_Z5 p0 y1) :: ((s_Z8 (cond (decide ((q1_Z5 p0 y1).2.1≤(q1_Z5 p0 y1).2.2)) (cond (y1 == zz0) true (decide ((q1_Z5 p0 y1).1 > (p0.getD (Int.toNat (wi (y1 - zz1))) (zz0,(zz0,zz0))).1))) false) (9:Int)) :: ([]:List Int))))) != zz0)=false) →(k2 (wi (y1 + zz1)))))))))))))))))))))))))) ∧(((decide (y1 < (p0.length:Int)))=false) →(K (zz0,zz0))))) n0 zz0)))))
theorem w_Z5_eq (p0:gB) (K:tQA→Prop):tfn F_Z5 A_Z5 C_Z5 P_Z5 R_Z5 p0 K = w_Z5 p0 K := by kernel_rfl
def st_Z5_0 (p0:gB) (y1:Int):Int ⊕ tQA := (cond (decide (y1 < (p0.length:Int))) (cond ((v_first ((s_Z8 (s_Zg (p0.getD y1.toNat ((0:Int),(0,0))).1 (1:Int) (20:Int)) (2:Int)) :: ((s_Z8 (cond (s_Zg (p0.getD y1.toNat ((0:Int),(0,0))).2.1 (0:Int) (100000:Int)) (s_Zg (p0.getD y1.toNat ((0:Int),(0,0))).2.2 (0:Int) (100000:Int)) false) (2:Int)) :: ((s_Z8 (cond (decide ((p0.getD y1.toNat ((0:Int),(0,0))).2.1≤(p0.getD y1.toNat ((0:Int),(0,0))).2.2)) (cond (y1 == 0) true (decide ((p0.getD y1.toNat ((0:Int),(0,0))).1 > (p0.getD (Int.toNat (IntKind.i64.wrap (y1 - 1))) ((0:Int),(0,0))).1))) false) (9:Int)) :: ([]:List Int))))) != 0) (Sum.inr (y1,(v_first ((s_Z8 (s_Zg (p0.getD y1.toNat ((0:Int),(0,0))).1 (1:Int) (20:Int)) (2:Int)) :: ((s_Z8 (cond (s_Zg (p0.getD y1.toNat ((0:Int),(0,0))).2.1 (0:Int) (100000:Int)) (s_Zg (p0.getD y1.toNat ((0:Int),(0,0))).2.2 (0:Int) (100000:Int)) false) (2:Int)) :: ((s_Z8 (cond (decide ((p0.getD y1.toNat ((0:Int),(0,0))).2.1≤(p0.getD y1.toNat ((0:Int),(0,0))).2.2)) (cond (y1 == 0) true (decide ((p0.getD y1.toNat ((0:Int),(0,0))).1 > (p0.getD (Int.toNat (IntKind.i64.wrap (y1 - 1))) ((0:Int),(0,0))).1))) false) (9:Int)) :: ([]:List Int))))))) (Sum.inl (IntKind.i64.wrap (y1 + 1)))) (Sum.inr (0,0)))
abbrev sp_Z5_0 (p0:gB) (y1:Int):List Prop := [(((decide (y1 < (p0.length:Int)))=true)→((0:Int)≤y1)),(((decide (y1 < (p0.length:Int)))=true)→(y1 < (p0.length:Int))),(((decide (y1 < (p0.length:Int)))=true)→(((y1 == 0)=false)→((0:Int)≤(IntKind.i64.wrap (y1 - 1))))),(((decide (y1 < (p0.length:Int)))=true)→(((y1 == 0)=false)→((IntKind.i64.wrap (y1 - 1)) < (p0.length:Int))))]
def s_Z5 (p0:gB):tQA := (cond ((v_first ((s_Z8 (decide ((p0.length:Int) > 0)) (10:Int)) :: ((s_Z8 (decide ((p0.length:Int)≤6)) (8:Int)) :: ([]:List Int)))) != 0) ((0:Int),(v_first ((s_Z8 (decide ((p0.length:Int) > 0)) (10:Int)) :: ((s_Z8 (decide ((p0.length:Int)≤6)) (8:Int)) :: ([]:List Int))))) (lpv (0,0) (st_Z5_0 p0) (0:Int)))
abbrev pre_Z5 (p0:gB):List Prop := [((((v_first ((s_Z8 (decide ((p0.length:Int) > 0)) (10:Int)) :: ((s_Z8 (decide ((p0.length:Int)≤6)) (8:Int)) :: ([]:List Int)))) != 0)=false)→(OkL (st_Z5_0 p0) (sp_Z5_0 p0) (0:Int)))]
theorem d_Z5 (p0:gB) (K:tQA→Prop) (hp:∀ p∈pre_Z5 p0,p) (h:K (s_Z5 p0)):w_Z5 p0 K := by
 unfold w_Z5
 unfold s_Z5 at h
 obtain ⟨hp0,_⟩ := conj_of hp
 exact ⟨(lenOk_of 2 rfl (by decide)),(br' h (fun e0 h => h)
  (fun e0 h => (loop_gen (hp0 e0) h (fun y1 k1 hp h => by
 unfold st_Z5_0 at h; obtain ⟨hp0,hp1,hp2,hp3,_⟩ := conj_of hp
 exact (br' h (fun e2 h => ⟨(hp0 e2),(hp1 e2),rf,rf,rf,rf,(hp2 e2),(hp3 e2),rf,rf,rf,rf,rfl,rf,rf,rf,rf,rfl,rfl,(lenOk_of 3 rfl (by decide)),(br' h (fun e3 h => h)
  (fun e3 h => h))⟩)
  (fun e2 h => h))))))⟩
theorem tx_cdh {n:Int} (h:0≤n):v_first [s_Z8 (decide (n > 0)) 10,s_Z8 (decide (n≤6)) 8]=cond (n == 0) 10 (cond (decide (n > 6)) 8 0) := by
 unfold s_Z8
 rcases int0 n with ⟨h0,_,e0⟩ | ⟨h0,_,e0⟩
 ·subst h0; rfl
 ·rw [e0,decide_eq_true (show n > 0 by omega)]
  rcases dec0 (a := 6) (b := n) with ⟨_,_,_,e1,e2⟩ | ⟨_,_,_,e1,e2⟩ <;> rw [e1,e2] <;> rfl
theorem l_Z5_0 (p0:gB) (hl:lenOk p0):OkL (st_Z5_0 p0) (sp_Z5_0 p0) 0∧lpv ((0,0):Int×Int) (st_Z5_0 p0) 0 = v_scan (v_cd1 p0) ((0,0):Int×Int) 0 p0 := by
 refine scan_is p0 (0,0,0) (v_cd1 p0) ((0,0):Int×Int) hl ?_ ?_
 ·refine ⟨by simp only [sp_Z5_0,fM,decide_eq_true_eq]; simp,by simp [st_Z5_0]⟩
 ·intro j hj
  have hj' : (j:Int) < p0.length := by omega
  have hw := wrap_nat (show (j:Int)≤9223372036854775806 by unfold lenOk at hl; omega)
  have hw2:IntKind.i64.wrap ((j:Int) - 1)=(j:Int) - 1 := wrap_id (by omega) (by unfold lenOk at hl; omega)
  refine ⟨by simp only [sp_Z5_0,fM,decide_eq_true_eq,Int.toNat_natCast]; rw [hw2]; and_intros <;> first | (intro p hp; cases hp; done) | (intros; first | omega | (simp_all; done) | (simp_all; omega)),?_⟩
  simp only [st_Z5_0,hj',decide_true,Int.toNat_natCast,cond_true,hw]
  unfold v_cd1
  rw [hw2]
  rcases int0 (j:Int) with ⟨hj0,_,z⟩ | ⟨hj0,_,z⟩ <;> rw [z]
  ·unfold s_Z8
   simp only [tx_withinG]
   cases decide ((p0.getD j (0,0,0)).2.1≤(p0.getD j (0,0,0)).2.2) <;> cases s_Z4 (p0.getD j (0,0,0)).1 1 20 <;> cases s_Z4 (p0.getD j (0,0,0)).2.1 0 100000 <;> cases s_Z4 (p0.getD j (0,0,0)).2.2 0 100000 <;> rfl
  ·unfold s_Z8
   simp only [tx_withinG]
   cases decide ((p0.getD j (0,0,0)).2.1≤(p0.getD j (0,0,0)).2.2) <;> cases decide ((p0.getD j (0,0,0)).1 > (p0.getD ((j:Int) - 1).toNat (0,0,0)).1) <;> cases s_Z4 (p0.getD j (0,0,0)).1 1 20 <;> cases s_Z4 (p0.getD j (0,0,0)).2.1 0 100000 <;> cases s_Z4 (p0.getD j (0,0,0)).2.2 0 100000 <;> rfl
abbrev t_Z5 (p0:gB):Int×Int := v_cd p0
abbrev qre_Z5 (_p0:gB):List Prop := []
theorem pp_Z5 (p0:gB) (_hq:∀ p∈qre_Z5 p0,p):∀ p∈pre_Z5 p0,p := by
 simp only [pre_Z5,fM]
 refine ⟨fun h => ?_,by simp⟩
 rw [tx_cdh (by omega)] at h
 refine (l_Z5_0 p0 (lenOk_le (n := 6) ?_ (by decide))).1
 cases c:decide ((p0.length:Int) > 6)
 ·have := of_decide_eq_false c; omega
 ·rw [c] at h
  cases c2:((p0.length:Int) == 0) <;> rw [c2] at h <;> cases h
theorem tt_Z5 (p0:gB) (_hq:∀ p∈qre_Z5 p0,p):s_Z5 p0 = t_Z5 p0 := by
 unfold s_Z5 t_Z5 v_cd
 rw [tx_cdh (by omega)]
 cases h:decide ((p0.length:Int) > 6)
 ·rw [(l_Z5_0 p0 (lenOk_le (n := 6) (by have := of_decide_eq_false h; omega) (by decide))).2]
  cases ((p0.length:Int) == 0) <;> rfl
 ·cases ((p0.length:Int) == 0) <;> rfl

abbrev con_Z5:Con := ⟨P_Z5,R_Z5,fun x => qre_Z5 x,fun x => t_Z5 x⟩
theorem ok_Z5:ConOk Tryz.prog 155 con_Z5 := okG k_Z5 e_Z5 hC_Z5 fun x hx => tf_of (w_Z5_eq x _) (d_Z5 x _ (pp_Z5 x hx) (tt_Z5 x hx))
def C_Zr:Cons := [(155,[],con_Z5)]
theorem hC_Zr:ConsOk Tryz.prog C_Zr := cC ok_Z5 <| ConsOk.nil
def w_Zr (p0:gB) (K:Int→Prop):Prop := (K (v_cd p0).2)
theorem w_Zr_eq (p0:gB) (K:Int→Prop):tfn F_Zr A_Zr C_Zr P_Zr R_Zr p0 K = w_Zr p0 K := by kernel_rfl
def s_Zr (p0:gB):Int := (v_cd p0).2
abbrev pre_Zr (_p0:gB):List Prop := []
theorem d_Zr (p0:gB) (K:Int→Prop) (_hp:∀ p∈pre_Zr p0,p) (h:K (s_Zr p0)):w_Zr p0 K := by
 unfold w_Zr
 unfold s_Zr at h
 exact h
abbrev con_Zr:Con := ⟨P_Zr,R_Zr,fun x => pre_Zr x,fun x => s_Zr x⟩
theorem ok_Zr:ConOk Tryz.prog 99 con_Zr := okG k_Zr e_Zr hC_Zr fun x hx => tf_of (w_Zr_eq x _) (d_Zr x _ hx rfl)
def C_Zb:Cons := [(96,itMark,con_Z18),(97,[],con_Z2),(99,[],con_Zr)]
theorem hC_Zb:ConsOk Tryz.prog C_Zb := ConsOk.consI ok_Z18 <| cC ok_Z2 <| cC ok_Zr <| ConsOk.nil
abbrev q0_Zb (z1:ByteArray) := (v_nms (((⟨#[58]⟩ : ByteArray) :: ((⟨#[44]⟩ : ByteArray) :: ([]:List ByteArray))) ++ ((⟨#[]⟩ : ByteArray) :: ([]:List ByteArray))) ([]:List Int) z1)
abbrev q1_Zb (z1:ByteArray) := (((List.getD (q0_Zb z1).1 (Int.toNat zz0) zz0),((List.getD (q0_Zb z1).1 (Int.toNat zz1) zz0),(List.getD (q0_Zb z1).1 (Int.toNat zz2) zz0))) :: ([]:List tQB))
def w_Zb (p0:ByteArray) (K:((List tQB)×Int)→Prop):Prop := ((((decide ((((ByteArray.size p0):Nat):Int) > 60000))=true) →(K (([]:List tQB),(8:Int)))) ∧(((decide ((((ByteArray.size p0):Nat):Int) > 60000))=false) →(((ByteArray.size p0)≤4611686018427387904) ∧(((ByteArray.size (⟨#[32]⟩ : ByteArray))=1) ∧(RngP (fun (y0:gB) (z1:ByteArray) k2 => (((List.length ((⟨#[58]⟩ : ByteArray) :: ((⟨#[44]⟩ : ByteArray) :: ([]:List ByteArray))))≤1000) ∧(((ByteArray.size z1)≤1000000) ∧((((!(q0_Zb z1).2)=true) →(K (([]:List tQB),(7:Int)))) ∧(((!(q0_Zb z1).2)=false) →((zz0 < (((q0_Zb z1).1.length:Nat):Int)) ∧((zz1 < (((q0_Zb z1).1.length:Nat):Int)) ∧((zz2 < (((q0_Zb z1).1.length:Nat):Int)) ∧((((y0.length + (List.length (q1_Zb z1))) * 24)≤140737488355328) ∧(k2 (y0 ++ (q1_Zb z1)))))))))))) (fun (s3:gB) => (((((v_cd s3).2 != zz0)=true) →(K (([]:List tQB),(v_cd s3).2))) ∧((((v_cd s3).2 != zz0)=false) →(K (s3,zz0))))) (v_pcs p0 (⟨#[32]⟩ : ByteArray)) ([]:List tQB))))))
theorem w_Zb_eq (p0:ByteArray) (K:((List tQB)×Int)→Prop):tfn F_Zb A_Zb C_Zb P_Zb R_Zb p0 K = w_Zb p0 K := by kernel_rfl
def st_Zb_0 (_p0:ByteArray) (y1:gB) (z1:ByteArray):(List tQB) ⊕ ((List tQB)×Int) := (cond (!(v_nms (((⟨#[58]⟩ : ByteArray) :: ((⟨#[44]⟩ : ByteArray) :: ([]:List ByteArray))) ++ ((⟨#[]⟩ : ByteArray) :: ([]:List ByteArray))) ([]:List Int) z1).2) (Sum.inr (([]:List tQB),(7:Int))) (Sum.inl (y1 ++ (((List.getD (v_nms (((⟨#[58]⟩ : ByteArray) :: ((⟨#[44]⟩ : ByteArray) :: ([]:List ByteArray))) ++ ((⟨#[]⟩ : ByteArray) :: ([]:List ByteArray))) ([]:List Int) z1).1 (Int.toNat (0:Int)) (0:Int)),((List.getD (v_nms (((⟨#[58]⟩ : ByteArray) :: ((⟨#[44]⟩ : ByteArray) :: ([]:List ByteArray))) ++ ((⟨#[]⟩ : ByteArray) :: ([]:List ByteArray))) ([]:List Int) z1).1 (Int.toNat (1:Int)) (0:Int)),(List.getD (v_nms (((⟨#[58]⟩ : ByteArray) :: ((⟨#[44]⟩ : ByteArray) :: ([]:List ByteArray))) ++ ((⟨#[]⟩ : ByteArray) :: ([]:List ByteArray))) ([]:List Int) z1).1 (Int.toNat (2:Int)) (0:Int)))) :: ([]:List tQB)))))
abbrev sp_Zb_0 (_p0:ByteArray) (y1:gB) (z1:ByteArray):List Prop := [((List.length ((⟨#[58]⟩ : ByteArray) :: ((⟨#[44]⟩ : ByteArray) :: ([]:List ByteArray))))≤1000),((ByteArray.size z1)≤1000000),(((!(v_nms (((⟨#[58]⟩ : ByteArray) :: ((⟨#[44]⟩ : ByteArray) :: ([]:List ByteArray))) ++ ((⟨#[]⟩ : ByteArray) :: ([]:List ByteArray))) ([]:List Int) z1).2)=false)→((0:Int) < (((List.length (v_nms (((⟨#[58]⟩ : ByteArray) :: ((⟨#[44]⟩ : ByteArray) :: ([]:List ByteArray))) ++ ((⟨#[]⟩ : ByteArray) :: ([]:List ByteArray))) ([]:List Int) z1).1):Nat):Int))),(((!(v_nms (((⟨#[58]⟩ : ByteArray) :: ((⟨#[44]⟩ : ByteArray) :: ([]:List ByteArray))) ++ ((⟨#[]⟩ : ByteArray) :: ([]:List ByteArray))) ([]:List Int) z1).2)=false)→((1:Int) < (((List.length (v_nms (((⟨#[58]⟩ : ByteArray) :: ((⟨#[44]⟩ : ByteArray) :: ([]:List ByteArray))) ++ ((⟨#[]⟩ : ByteArray) :: ([]:List ByteArray))) ([]:List Int) z1).1):Nat):Int))),(((!(v_nms (((⟨#[58]⟩ : ByteArray) :: ((⟨#[44]⟩ : ByteArray) :: ([]:List ByteArray))) ++ ((⟨#[]⟩ : ByteArray) :: ([]:List ByteArray))) ([]:List Int) z1).2)=false)→((2:Int) < (((List.length (v_nms (((⟨#[58]⟩ : ByteArray) :: ((⟨#[44]⟩ : ByteArray) :: ([]:List ByteArray))) ++ ((⟨#[]⟩ : ByteArray) :: ([]:List ByteArray))) ([]:List Int) z1).1):Nat):Int))),(((!(v_nms (((⟨#[58]⟩ : ByteArray) :: ((⟨#[44]⟩ : ByteArray) :: ([]:List ByteArray))) ++ ((⟨#[]⟩ : ByteArray) :: ([]:List ByteArray))) ([]:List Int) z1).2)=false)→(((y1.length + (List.length (((List.getD (v_nms (((⟨#[58]⟩ : ByteArray) :: ((⟨#[44]⟩ : ByteArray) :: ([]:List ByteArray))) ++ ((⟨#[]⟩ : ByteArray) :: ([]:List ByteArray))) ([]:List Int) z1).1 (Int.toNat (0:Int)) (0:Int)),((List.getD (v_nms (((⟨#[58]⟩ : ByteArray) :: ((⟨#[44]⟩ : ByteArray) :: ([]:List ByteArray))) ++ ((⟨#[]⟩ : ByteArray) :: ([]:List ByteArray))) ([]:List Int) z1).1 (Int.toNat (1:Int)) (0:Int)),(List.getD (v_nms (((⟨#[58]⟩ : ByteArray) :: ((⟨#[44]⟩ : ByteArray) :: ([]:List ByteArray))) ++ ((⟨#[]⟩ : ByteArray) :: ([]:List ByteArray))) ([]:List Int) z1).1 (Int.toNat (2:Int)) (0:Int)))) :: ([]:List tQB)))) * 24)≤140737488355328))]
def sf_Zb_0 (_p0:ByteArray) (s1:gB):((List tQB)×Int) := (cond ((v_cd s1).2 != 0) (([]:List tQB),(v_cd s1).2) (s1,(0:Int)))
abbrev sq_Zb_0 (_p0:ByteArray) (_s1:gB):List Prop := []
def s_Zb (p0:ByteArray):((List tQB)×Int) := (cond (decide ((((ByteArray.size p0):Nat):Int) > 60000)) (([]:List tQB),(8:Int)) (rngV (st_Zb_0 p0) (sf_Zb_0 p0) (v_pcs p0 (⟨#[32]⟩ : ByteArray)) ([]:List tQB)))
abbrev pre_Zb (p0:ByteArray):List Prop := [(((decide ((((ByteArray.size p0):Nat):Int) > 60000))=false)→((ByteArray.size p0)≤4611686018427387904)),(((decide ((((ByteArray.size p0):Nat):Int) > 60000))=false)→((ByteArray.size (⟨#[32]⟩ : ByteArray))=1)),(((decide ((((ByteArray.size p0):Nat):Int) > 60000))=false)→(OkR (st_Zb_0 p0) (sp_Zb_0 p0) (sq_Zb_0 p0) (v_pcs p0 (⟨#[32]⟩ : ByteArray)) ([]:List tQB)))]
theorem d_Zb (p0:ByteArray) (K:((List tQB)×Int)→Prop) (hp:∀ p∈pre_Zb p0,p) (h:K (s_Zb p0)):w_Zb p0 K := by
 unfold w_Zb
 unfold s_Zb at h
 obtain ⟨hp0,hp1,hp2,_⟩ := conj_of hp
 exact (br' h (fun e0 h => h)
  (fun e0 h => ⟨(hp0 e0),(hp1 e0),(rng_gen (hp2 e0) h (fun y1 z1 k1 hp h => by
 unfold st_Zb_0 at h; obtain ⟨hp0,hp1,hp2,hp3,hp4,hp5,_⟩ := conj_of hp
 exact ⟨(hp0),(hp1),(br' h (fun e2 h => h)
  (fun e2 h => ⟨(hp2 e2),(hp3 e2),(hp4 e2),(hp5 e2),h⟩))⟩) (fun s1 hp h => by
 unfold sf_Zb_0 at h
 exact (br' h (fun e3 h => h)
  (fun e3 h => h))))⟩))
theorem tx_Zb (z:ByteArray):v_nms (((⟨#[58]⟩ : ByteArray) :: ((⟨#[44]⟩ : ByteArray) :: ([]:List ByteArray))) ++ ((⟨#[]⟩ : ByteArray) :: ([]:List ByteArray))) ([]:List Int) z = match v_opt3 z 58 44 with | some (a,b,c) => ([a,b,c],true) | none => ([],false) := v_nms_three (x := 58) (y := 44) rfl rfl (by decide) z
theorem l_Zb_0 (p0:ByteArray) (hs:p0.size≤60000):OkR (st_Zb_0 p0) (sp_Zb_0 p0) (sq_Zb_0 p0) (v_pcs p0 (⟨#[32]⟩ : ByteArray)) []∧rngV (st_Zb_0 p0) (sf_Zb_0 p0) (v_pcs p0 (⟨#[32]⟩ : ByteArray)) []=v_prsl (fun w => v_opt3 w 58 44) (fun l => (v_cd l).2) (v_ct p0 32) := by
 have hp:v_pcs p0 (⟨#[32]⟩ : ByteArray)=v_ct p0 32 := v_pcs_ct p0 32
 rw [hp]
 refine prs_rng (f := (fun w => v_opt3 w 58 44)) (e := (fun l => (v_cd l).2)) (fun y z => ?_) (fun y => rfl) (fun y z hy hz => ?_) (fun y => by unfold sq_Zb_0; simp) _ (by have := v_ct_len p0 32; omega) (fun z hz => Nat.le_trans (v_ct_mem hz) hs)
 ·unfold st_Zb_0
  rw [tx_Zb]
  cases v_opt3 z 58 44 <;> rfl
 ·unfold sp_Zb_0
  rw [tx_Zb]
  simp only [fM]
  cases v_opt3 z 58 44 with
  | none =>
   and_intros
   all_goals first | omega | (intro h; cases h) | (simp; done)
  | some x =>
   and_intros
   all_goals first | omega | (simp; done) | (intro _; simp only [List.length_cons,List.length_nil]; omega)
abbrev t_Zb (p0:ByteArray):List (Int×Int×Int)×Int := v_prs (fun w => v_opt3 w 58 44) (fun l => (v_cd l).2) p0
abbrev qre_Zb (_p0:ByteArray):List Prop := []
theorem pp_Zb (p0:ByteArray) (_hq:∀ p∈qre_Zb p0,p):∀ p∈pre_Zb p0,p := by
 simp only [pre_Zb,fM]
 refine ⟨fun h => ?_,fun _ => rfl,fun h => (l_Zb_0 p0 ?_).1,by simp⟩
 ·have := of_decide_eq_false h; omega
 ·have := of_decide_eq_false h; omega
theorem tt_Zb (p0:ByteArray) (_hq:∀ p∈qre_Zb p0,p):s_Zb p0 = t_Zb p0 := by
 unfold s_Zb t_Zb v_prs
 cases h:decide ((p0.size:Int) > 60000) with
 | true => rfl
 | false => rw [(l_Zb_0 p0 (by have := of_decide_eq_false h; omega)).2]

abbrev con_Zb:Con := ⟨P_Zb,R_Zb,fun x => qre_Zb x,fun x => t_Zb x⟩
theorem ok_Zb:ConOk Tryz.prog 29 con_Zb := okG k_Zb e_Zb hC_Zb fun x hx => tf_of (w_Zb_eq x _) (d_Zb x _ (pp_Zb x hx) (tt_Zb x hx))
def C_Zl:Cons := []
theorem hC_Zl:ConsOk Tryz.prog C_Zl := ConsOk.nil
def w_Zl (p0:ByteArray) (p1:Int) (K:(List ByteArray)→Prop):Prop := (∃ n0,(loopP (fun (y1:(Int×(Int×(List ByteArray)))) k2 => ((((decide (y1.1 < (((ByteArray.size p0):Nat):Int)))=true) →((zz0≤y1.1) ∧((y1.1 < (((ByteArray.size p0):Nat):Int)) ∧(((((v_six p0 y1.1) == p1)=true) →((zz0≤y1.2.1) ∧((y1.2.1≤y1.1) ∧((y1.1≤(((ByteArray.size p0):Nat):Int)) ∧((((y1.2.2.length + (List.length ((v_ssub p0 y1.2.1 y1.1) :: ([]:List ByteArray)))) * 16)≤140737488355328) ∧(k2 ((IntKind.i64.wrap (y1.1 + 1)),((IntKind.i64.wrap (y1.1 + 1)),(y1.2.2 ++ ((v_ssub p0 y1.2.1 y1.1) :: ([]:List ByteArray))))))))))) ∧((((v_six p0 y1.1) == p1)=false) →(k2 ((IntKind.i64.wrap (y1.1 + 1)),y1.2))))))) ∧(((decide (y1.1 < (((ByteArray.size p0):Nat):Int)))=false) →((zz0≤y1.2.1) ∧((y1.2.1≤(((ByteArray.size p0):Nat):Int)) ∧((((y1.2.2.length + (List.length ((v_ssub p0 y1.2.1 (((ByteArray.size p0):Nat):Int)) :: ([]:List ByteArray)))) * 16)≤140737488355328) ∧(K (y1.2.2 ++ ((v_ssub p0 y1.2.1 (((ByteArray.size p0):Nat):Int)) :: ([]:List ByteArray)))))))))) n0 (zz0,(zz0,([]:List ByteArray)))))
theorem w_Zl_eq (p0:ByteArray) (p1:Int) (K:(List ByteArray)→Prop):tfn F_Zl A_Zl C_Zl P_Zl R_Zl (p0,p1) K = w_Zl p0 p1 K := by kernel_rfl
def st_Zl_0 (p0:ByteArray) (p1:Int) (y0:(Int×(Int×(List ByteArray)))):(Int×(Int×(List ByteArray))) ⊕ (List ByteArray) := (cond (decide (y0.1 < (((ByteArray.size p0):Nat):Int))) (cond ((v_six p0 y0.1) == p1) (Sum.inl ((IntKind.i64.wrap (y0.1 + 1)),((IntKind.i64.wrap (y0.1 + 1)),(y0.2.2 ++ ((v_ssub p0 y0.2.1 y0.1) :: ([]:List ByteArray)))))) (Sum.inl ((IntKind.i64.wrap (y0.1 + 1)),y0.2))) (Sum.inr (y0.2.2 ++ ((v_ssub p0 y0.2.1 (((ByteArray.size p0):Nat):Int)) :: ([]:List ByteArray)))))
abbrev sp_Zl_0 (p0:ByteArray) (p1:Int) (y0:(Int×(Int×(List ByteArray)))):List Prop := [(((decide (y0.1 < (((ByteArray.size p0):Nat):Int)))=true)→((0:Int)≤y0.1)),(((decide (y0.1 < (((ByteArray.size p0):Nat):Int)))=true)→(y0.1 < (((ByteArray.size p0):Nat):Int))),(((decide (y0.1 < (((ByteArray.size p0):Nat):Int)))=true)→((((v_six p0 y0.1) == p1)=true)→((0:Int)≤y0.2.1))),(((decide (y0.1 < (((ByteArray.size p0):Nat):Int)))=true)→((((v_six p0 y0.1) == p1)=true)→(y0.2.1≤y0.1))),(((decide (y0.1 < (((ByteArray.size p0):Nat):Int)))=true)→((((v_six p0 y0.1) == p1)=true)→(y0.1≤(((ByteArray.size p0):Nat):Int)))),(((decide (y0.1 < (((ByteArray.size p0):Nat):Int)))=true)→((((v_six p0 y0.1) == p1)=true)→(((y0.2.2.length + (List.length ((v_ssub p0 y0.2.1 y0.1) :: ([]:List ByteArray)))) * 16)≤140737488355328))),(((decide (y0.1 < (((ByteArray.size p0):Nat):Int)))=false)→((0:Int)≤y0.2.1)),(((decide (y0.1 < (((ByteArray.size p0):Nat):Int)))=false)→(y0.2.1≤(((ByteArray.size p0):Nat):Int))),(((decide (y0.1 < (((ByteArray.size p0):Nat):Int)))=false)→(((y0.2.2.length + (List.length ((v_ssub p0 y0.2.1 (((ByteArray.size p0):Nat):Int)) :: ([]:List ByteArray)))) * 16)≤140737488355328))]
def s_Zl (p0:ByteArray) (p1:Int):(List ByteArray) := (lpv [] (st_Zl_0 p0 p1) ((0:Int),((0:Int),([]:List ByteArray))))
abbrev pre_Zl (p0:ByteArray) (p1:Int):List Prop := [(OkL (st_Zl_0 p0 p1) (sp_Zl_0 p0 p1) ((0:Int),((0:Int),([]:List ByteArray))))]
theorem d_Zl (p0:ByteArray) (p1:Int) (K:(List ByteArray)→Prop) (hp:∀ p∈pre_Zl p0 p1,p) (h:K (s_Zl p0 p1)):w_Zl p0 p1 K := by
 unfold w_Zl
 unfold s_Zl at h
 obtain ⟨hp0,_⟩ := conj_of hp
 exact (loop_gen (hp0) h (fun y0 k0 hp h => by
 unfold st_Zl_0 at h; obtain ⟨hp0,hp1,hp2,hp3,hp4,hp5,hp6,hp7,hp8,_⟩ := conj_of hp
 exact (br' h (fun e1 h => ⟨(hp0 e1),(hp1 e1),(br' h (fun e2 h => ⟨(hp2 e1 e2),(hp3 e1 e2),(hp4 e1 e2),(hp5 e1 e2),h⟩)
  (fun e2 h => h))⟩)
  (fun e1 h => ⟨(hp6 e1),(hp7 e1),(hp8 e1),h⟩))))
theorem l_Zl_0 (p0:ByteArray) (p1:Int) (h0:0≤p1) (h1:p1 < 256) (hs:p0.size≤1000000):OkL (st_Zl_0 p0 p1) (sp_Zl_0 p0 p1) (0,(0,[]))∧lpv [] (st_Zl_0 p0 p1) (0,(0,[]))=v_ct p0 p1 := by
 refine cut_is h0 h1 hs (fun y => by unfold st_Zl_0; rfl) (fun y hy => ?_)
 obtain ⟨a1,a2,a3,a4,a5⟩ := hy
 unfold sp_Zl_0
 simp only [fM,decide_eq_true_eq,decide_eq_false_iff_not,List.length_cons,List.length_nil]
 and_intros
 all_goals first | (intros; omega) | (simp; done)
abbrev t_Zl (p0:ByteArray) (p1:Int):List ByteArray := v_ct p0 p1
abbrev qre_Zl (p0:ByteArray) (p1:Int):List Prop := [0≤p1,p1 < 256,p0.size≤1000000]
theorem pp_Zl (p0:ByteArray) (p1:Int) (hq:∀ p∈qre_Zl p0 p1,p):∀ p∈pre_Zl p0 p1,p := by
 obtain ⟨h1,h2,h3,_⟩ := conj_of hq
 simp only [pre_Zl,fM]
 exact ⟨(l_Zl_0 p0 p1 h1 h2 h3).1,by simp⟩
theorem tt_Zl (p0:ByteArray) (p1:Int) (hq:∀ p∈qre_Zl p0 p1,p):s_Zl p0 p1 = t_Zl p0 p1 := by
 obtain ⟨h1,h2,h3,_⟩ := conj_of hq
 exact (l_Zl_0 p0 p1 h1 h2 h3).2

abbrev con_Zl:Con := ⟨P_Zl,R_Zl,fun x => qre_Zl x.1 x.2,fun x => t_Zl x.1 x.2⟩
theorem ok_Zl:ConOk Tryz.prog 100 con_Zl := okG k_Zl e_Zl hC_Zl fun x hx => tf_of (w_Zl_eq x.1 x.2 _) (d_Zl x.1 x.2 _ (pp_Zl x.1 x.2 hx) (tt_Zl x.1 x.2 hx))
def C_Z0:Cons := []
theorem hC_Z0:ConsOk Tryz.prog C_Z0 := ConsOk.nil
abbrev q0_Z0 (p0:ByteArray) := ((((ByteArray.size p0):Nat):Int) == zz1)
abbrev q1_Z0 (p0:ByteArray) := ((((ByteArray.size p0):Nat):Int) == zz0)
abbrev q2_Z0 (p0:ByteArray) := ((((ByteArray.size p0):Nat):Int) - zz1)
abbrev q3_Z0 (p0:ByteArray) := ((((ByteArray.size p0):Nat):Int) - zz0)
def w_Z0 (p0:ByteArray) (p1:Int) (K:(Int×Bool)→Prop):Prop := ((((decide ((((ByteArray.size p0):Nat):Int) > zz0))=true) →((decide ((((ByteArray.size p0):Nat):Int) > zz0))=(decide ((((ByteArray.size p0):Nat):Int) > zz0)))) ∧((((decide ((((ByteArray.size p0):Nat):Int) > zz0))=true) →(zz0≤zz0)) ∧((((decide ((((ByteArray.size p0):Nat):Int) > zz0))=true) →(zz0 < (((ByteArray.size p0):Nat):Int))) ∧((((decide ((((ByteArray.size p0):Nat):Int) > zz0))=true) →((decide ((((ByteArray.size p0):Nat):Int) > zz0))=(decide ((((ByteArray.size p0):Nat):Int) > zz0)))) ∧(((decide ((((ByteArray.size p0):Nat):Int) > zz0))=(decide ((((ByteArray.size p0):Nat):Int) > zz0))) ∧((((cond (decide ((((ByteArray.size p0):Nat):Int) > zz0)) ((v_six p0 zz0) == 45) false)=true) →((((q0_Z0 p0)=false) →((q0_Z0 p0)=(q0_Z0 p0))) ∧((((q0_Z0 p0)=false) →((q0_Z0 p0)=(q0_Z0 p0))) ∧((((q0_Z0 p0)=false) →((q0_Z0 p0)=(q0_Z0 p0))) ∧((((q0_Z0 p0)=false) →((q0_Z0 p0)=(q0_Z0 p0))) ∧((((q0_Z0 p0)=false) →((q0_Z0 p0)=(q0_Z0 p0))) ∧(((q0_Z0 p0)=(q0_Z0 p0)) ∧((((cond (q0_Z0 p0) true (decide ((wi (q2_Z0 p0)) > p1)))=false) →((cond (q0_Z0 p0) true (decide ((wi (q2_Z0 p0)) > p1)))=(cond (q0_Z0 p0) true (decide ((wi (q2_Z0 p0)) > p1))))) ∧((((cond (q0_Z0 p0) true (decide ((wi (q2_Z0 p0)) > p1)))=false) →((cond (q0_Z0 p0) true (decide ((wi (q2_Z0 p0)) > p1)))=(cond (q0_Z0 p0) true (decide ((wi (q2_Z0 p0)) > p1))))) ∧((((cond (q0_Z0 p0) true (decide ((wi (q2_Z0 p0)) > p1)))=false) →(zz0≤zz1)) ∧((((cond (q0_Z0 p0) true (decide ((wi (q2_Z0 p0)) > p1)))=false) →(zz1 < (((ByteArray.size p0):Nat):Int))) ∧((((cond (q0_Z0 p0) true (decide ((wi (q2_Z0 p0)) > p1)))=false) →((cond (q0_Z0 p0) true (decide ((wi (q2_Z0 p0)) > p1)))=(cond (q0_Z0 p0) true (decide ((wi (q2_Z0 p0)) > p1))))) ∧((((cond (q0_Z0 p0) true (decide ((wi (q2_Z0 p0)) > p1)))=false) →((cond (q0_Z0 p0) true (decide ((wi (q2_Z0 p0)) > p1)))=(cond (q0_Z0 p0) true (decide ((wi (q2_Z0 p0)) > p1))))) ∧(((((!(cond (q0_Z0 p0) true (decide ((wi (q2_Z0 p0)) > p1)))) && ((v_six p0 zz1) == 48))=true) →(((!(cond (q0_Z0 p0) true (decide ((wi (q2_Z0 p0)) > p1)))) && ((v_six p0 zz1) == 48))=((!(cond (q0_Z0 p0) true (decide ((wi (q2_Z0 p0)) > p1)))) && ((v_six p0 zz1) == 48)))) ∧(((((!(cond (q0_Z0 p0) true (decide ((wi (q2_Z0 p0)) > p1)))) && ((v_six p0 zz1) == 48))=true) →(((!(cond (q0_Z0 p0) true (decide ((wi (q2_Z0 p0)) > p1)))) && ((v_six p0 zz1) == 48))=((!(cond (q0_Z0 p0) true (decide ((wi (q2_Z0 p0)) > p1)))) && ((v_six p0 zz1) == 48)))) ∧((((cond (q0_Z0 p0) true (decide ((wi (q2_Z0 p0)) > p1)))=false) →((cond (q0_Z0 p0) true (decide ((wi (q2_Z0 p0)) > p1)))=(cond (q0_Z0 p0) true (decide ((wi (q2_Z0 p0)) > p1))))) ∧((((cond (q0_Z0 p0) true (decide ((wi (q2_Z0 p0)) > p1)))=false) →(((!(cond (q0_Z0 p0) true (decide ((wi (q2_Z0 p0)) > p1)))) && ((v_six p0 zz1) == 48))=((v_six p0 zz1) == 48))) ∧(((cond (q0_Z0 p0) true (decide ((wi (q2_Z0 p0)) > p1)))=(cond (q0_Z0 p0) true (decide ((wi (q2_Z0 p0)) > p1)))) ∧((((cond (cond (q0_Z0 p0) true (decide ((wi (q2_Z0 p0)) > p1))) true (cond ((v_six p0 zz1) == 48) (decide ((((ByteArray.size p0):Nat):Int) > zz1)) false))=true) →(K (zz0,false))) ∧(((cond (cond (q0_Z0 p0) true (decide ((wi (q2_Z0 p0)) > p1))) true (cond ((v_six p0 zz1) == 48) (decide ((((ByteArray.size p0):Nat):Int) > zz1)) false))=false) →(∃ n0,(loopP (fun (y1:gG) k2 => ((((decide (y1.1 < (((ByteArray.size p0):Nat):Int)))=true) →((zz0≤y1.1) ∧((y1.1 < (((ByteArray.size p0):Nat):Int)) ∧((((decide ((v_six p0 y1.1) < 48))=false) →((decide ((v_six p0 y1.1) < 48))=(decide ((v_six p0 y1.1) < 48)))) ∧((((decide ((v_six p0 y1.1) < 48))=false) →((decide ((v_six p0 y1.1) < 48))=(decide ((v_six p0 y1.1) < 48)))) ∧((((decide ((v_six p0 y1.1) < 48))=false) →(zz0≤y1.1)) ∧((((decide ((v_six p0 y1.1) < 48))=false) →(y1.1 < (((ByteArray.size p0):Nat):Int))) ∧((((decide ((v_six p0 y1.1) < 48))=false) →((decide ((v_six p0 y1.1) < 48))=(decide ((v_six p0 y1.1) < 48)))) ∧(((decide ((v_six p0 y1.1) < 48))=(decide ((v_six p0 y1.1) < 48))) ∧((((cond (decide ((v_six p0 y1.1) < 48)) true (decide ((v_six p0 y1.1) > 57)))=true) →(K (zz0,false))) ∧(((cond (decide ((v_six p0 y1.1) < 48)) true (decide ((v_six p0 y1.1) > 57)))=false) →((zz0≤y1.1) ∧((y1.1 < (((ByteArray.size p0):Nat):Int)) ∧(k2 ((wi (y1.1 + zz1)),(wi ((wi ((10:Int) * y1.2)) + (wi (IntKind.wrap .u8 ((v_six p0 y1.1) - 48)))))))))))))))))))) ∧(((decide (y1.1 < (((ByteArray.size p0):Nat):Int)))=false) →((((zz1 == zz1)=true) →(K ((wi (zz0 - y1.2)),true))) ∧(((zz1 == zz1)=false) →(K (y1.2,true))))))) n0 (zz1,zz0))))))))))))))))))))))) ∧(((cond (decide ((((ByteArray.size p0):Nat):Int) > zz0)) ((v_six p0 zz0) == 45) false)=false) →((((q1_Z0 p0)=false) →((q1_Z0 p0)=(q1_Z0 p0))) ∧((((q1_Z0 p0)=false) →((q1_Z0 p0)=(q1_Z0 p0))) ∧((((q1_Z0 p0)=false) →((q1_Z0 p0)=(q1_Z0 p0))) ∧((((q1_Z0 p0)=false) →((q1_Z0 p0)=(q1_Z0 p0))) ∧((((q1_Z0 p0)=false) →((q1_Z0 p0)=(q1_Z0 p0))) ∧(((q1_Z0 p0)=(q1_Z0 p0)) ∧((((cond (q1_Z0 p0) true (decide ((wi (q3_Z0 p0)) > p1)))=false) →((cond (q1_Z0 p0) true (decide ((wi (q3_Z0 p0)) > p1)))=(cond (q1_Z0 p0) true (decide ((wi (q3_Z0 p0)) > p1))))) ∧((((cond (q1_Z0 p0) true (decide ((wi (q3_Z0 p0)) > p1)))=false) →((cond (q1_Z0 p0) true (decide ((wi (q3_Z0 p0)) > p1)))=(cond (q1_Z0 p0) true (decide ((wi (q3_Z0 p0)) > p1))))) ∧((((cond (q1_Z0 p0) true (decide ((wi (q3_Z0 p0)) > p1)))=false) →(zz0≤zz0)) ∧((((cond (q1_Z0 p0) true (decide ((wi (q3_Z0 p0)) > p1)))=false) →(zz0 < (((ByteArray.size p0):Nat):Int))) ∧((((cond (q1_Z0 p0) true (decide ((wi (q3_Z0 p0)) > p1)))=false) →((cond (q1_Z0 p0) true (decide ((wi (q3_Z0 p0)) > p1)))=(cond (q1_Z0 p0) true (decide ((wi (q3_Z0 p0)) > p1))))) ∧((((cond (q1_Z0 p0) true (decide ((wi (q3_Z0 p0)) > p1)))=false) →((cond (q1_Z0 p0) true (decide ((wi (q3_Z0 p0)) > p1)))=(cond (q1_Z0 p0) true (decide ((wi (q3_Z0 p0)) > p1))))) ∧(((((!(cond (q1_Z0 p0) true (decide ((wi (q3_Z0 p0)) > p1)))) && ((v_six p0 zz0) == 48))=true) →(((!(cond (q1_Z0 p0) true (decide ((wi (q3_Z0 p0)) > p1)))) && ((v_six p0 zz0) == 48))=((!(cond (q1_Z0 p0) true (decide ((wi (q3_Z0 p0)) > p1)))) && ((v_six p0 zz0) == 48)))) ∧(((((!(cond (q1_Z0 p0) true (decide ((wi (q3_Z0 p0)) > p1)))) && ((v_six p0 zz0) == 48))=true) →(((!(cond (q1_Z0 p0) true (decide ((wi (q3_Z0 p0)) > p1)))) && ((v_six p0 zz0) == 48))=((!(cond (q1_Z0 p0) true (decide ((wi (q3_Z0 p0)) > p1)))) && ((v_six p0 zz0) == 48)))) ∧((((cond (q1_Z0 p0) true (decide ((wi (q3_Z0 p0)) > p1)))=false) →((cond (q1_Z0 p0) true (decide ((wi (q3_Z0 p0)) > p1)))=(cond (q1_Z0 p0) true (decide ((wi (q3_Z0 p0)) > p1))))) ∧((((cond (q1_Z0 p0) true (decide ((wi (q3_Z0 p0)) > p1)))=false) →(((!(cond (q1_Z0 p0) true (decide ((wi (q3_Z0 p0)) > p1)))) && ((v_six p0 zz0) == 48))=((v_six p0 zz0) == 48))) ∧(((cond (q1_Z0 p0) true (decide ((wi (q3_Z0 p0)) > p1)))=(cond (q1_Z0 p0) true (decide ((wi (q3_Z0 p0)) > p1)))) ∧((((cond (cond (q1_Z0 p0) true (decide ((wi (q3_Z0 p0)) > p1))) true (cond ((v_six p0 zz0) == 48) (decide ((((ByteArray.size p0):Nat):Int) > zz1)) false))=true) →(K (zz0,false))) ∧(((cond (cond (q1_Z0 p0) true (decide ((wi (q3_Z0 p0)) > p1))) true (cond ((v_six p0 zz0) == 48) (decide ((((ByteArray.size p0):Nat):Int) > zz1)) false))=false) →(∃ n3,(loopP (fun (y4:gG) k5 => ((((decide (y4.1 < (((ByteArray.size p0):Nat):Int)))=true) →((zz0≤y4.1) ∧((y4.1 < (((ByteArray.size p0):Nat):Int)) ∧((((decide ((v_six p0 y4.1) < 48))=false) →((decide ((v_six p0 y4.1) < 48))=(decide ((v_six p0 y4.1) < 48)))) ∧((((decide ((v_six p0 y4.1) < 48))=false) →((decide ((v_six p0 y4.1) < 48))=(decide ((v_six p0 y4.1) < 48)))) ∧((((decide ((v_six p0 y4.1) < 48))=false) →(zz0≤y4.1)) ∧((((decide ((v_six p0 y4.1) < 48))=false) →(y4.1 < (((ByteArray.size p0):Nat):Int))) ∧((((decide ((v_six p0 y4.1) < 48))=false) →((decide ((v_six p0 y4.1) < 48))=(decide ((v_six p0 y4.1) < 48)))) ∧(((decide ((v_six p0 y4.1) < 48))=(decide ((v_six p0 y4.1) < 48))) ∧((((cond (decide ((v_six p0 y4.1) < 48)) true (decide ((v_six p0 y4.1) > 57)))=true) →(K (zz0,false))) ∧(((cond (decide ((v_six p0 y4.1) < 48)) true (decide ((v_six p0 y4.1) > 57)))=false) →((zz0≤y4.1) ∧((y4.1 < (((ByteArray.size p0):Nat):Int)) ∧(k5 ((wi (y4.1 + zz1)),(wi ((wi ((10:Int) * y4.2)) + (wi (IntKind.wrap .u8 ((v_six p0 y4.1) - 48)))))))))))))))))))) ∧(((decide (y4.1 < (((ByteArray.size p0):Nat):Int)))=false) →((((zz0 == zz1)=true) →(K ((wi (zz0 - y4.2)),true))) ∧(((zz0 == zz1)=false) →(K (y4.2,true))))))) n3 (zz0,zz0)))))))))))))))))))))))))))))
theorem w_Z0_eq (p0:ByteArray) (p1:Int) (K:(Int×Bool)→Prop):tfn F_Z0 A_Z0 C_Z0 P_Z0 R_Z0 (p0,p1) K = w_Z0 p0 p1 K := by kernel_rfl
def st_Z0_0 (p0:ByteArray) (_p1:Int) (y2:gG):tQA ⊕ (Int×Bool) := (cond (decide (y2.1 < (((ByteArray.size p0):Nat):Int))) (cond (cond (decide ((v_six p0 y2.1) < 48)) true (decide ((v_six p0 y2.1) > 57))) (Sum.inr ((0:Int),false)) (Sum.inl ((IntKind.i64.wrap (y2.1 + 1)),(IntKind.i64.wrap ((IntKind.i64.wrap ((10:Int) * y2.2)) + (IntKind.i64.wrap (IntKind.wrap .u8 ((v_six p0 y2.1) - 48)))))))) (Sum.inr ((IntKind.i64.wrap ((0:Int) - y2.2)),true)))
abbrev sp_Z0_0 (p0:ByteArray) (_p1:Int) (y2:gG):List Prop := [(((decide (y2.1 < (((ByteArray.size p0):Nat):Int)))=true)→((0:Int)≤y2.1)),(((decide (y2.1 < (((ByteArray.size p0):Nat):Int)))=true)→(y2.1 < (((ByteArray.size p0):Nat):Int))),(((decide (y2.1 < (((ByteArray.size p0):Nat):Int)))=true)→(((decide ((v_six p0 y2.1) < 48))=false)→((0:Int)≤y2.1))),(((decide (y2.1 < (((ByteArray.size p0):Nat):Int)))=true)→(((decide ((v_six p0 y2.1) < 48))=false)→(y2.1 < (((ByteArray.size p0):Nat):Int)))),(((decide (y2.1 < (((ByteArray.size p0):Nat):Int)))=true)→(((cond (decide ((v_six p0 y2.1) < 48)) true (decide ((v_six p0 y2.1) > 57)))=false)→((0:Int)≤y2.1))),(((decide (y2.1 < (((ByteArray.size p0):Nat):Int)))=true)→(((cond (decide ((v_six p0 y2.1) < 48)) true (decide ((v_six p0 y2.1) > 57)))=false)→(y2.1 < (((ByteArray.size p0):Nat):Int))))]
def st_Z0_1 (p0:ByteArray) (_p1:Int) (y6:gG):tQA ⊕ (Int×Bool) := (cond (decide (y6.1 < (((ByteArray.size p0):Nat):Int))) (cond (cond (decide ((v_six p0 y6.1) < 48)) true (decide ((v_six p0 y6.1) > 57))) (Sum.inr ((0:Int),false)) (Sum.inl ((IntKind.i64.wrap (y6.1 + 1)),(IntKind.i64.wrap ((IntKind.i64.wrap ((10:Int) * y6.2)) + (IntKind.i64.wrap (IntKind.wrap .u8 ((v_six p0 y6.1) - 48)))))))) (Sum.inr (y6.2,true)))
abbrev sp_Z0_1 (p0:ByteArray) (_p1:Int) (y6:gG):List Prop := [(((decide (y6.1 < (((ByteArray.size p0):Nat):Int)))=true)→((0:Int)≤y6.1)),(((decide (y6.1 < (((ByteArray.size p0):Nat):Int)))=true)→(y6.1 < (((ByteArray.size p0):Nat):Int))),(((decide (y6.1 < (((ByteArray.size p0):Nat):Int)))=true)→(((decide ((v_six p0 y6.1) < 48))=false)→((0:Int)≤y6.1))),(((decide (y6.1 < (((ByteArray.size p0):Nat):Int)))=true)→(((decide ((v_six p0 y6.1) < 48))=false)→(y6.1 < (((ByteArray.size p0):Nat):Int)))),(((decide (y6.1 < (((ByteArray.size p0):Nat):Int)))=true)→(((cond (decide ((v_six p0 y6.1) < 48)) true (decide ((v_six p0 y6.1) > 57)))=false)→((0:Int)≤y6.1))),(((decide (y6.1 < (((ByteArray.size p0):Nat):Int)))=true)→(((cond (decide ((v_six p0 y6.1) < 48)) true (decide ((v_six p0 y6.1) > 57)))=false)→(y6.1 < (((ByteArray.size p0):Nat):Int))))]
def s_Z0 (p0:ByteArray) (p1:Int):(Int×Bool) := (cond (cond (decide ((((ByteArray.size p0):Nat):Int) > 0)) ((v_six p0 (0:Int)) == 45) false) (cond (cond (cond ((((ByteArray.size p0):Nat):Int) == 1) true (decide ((IntKind.i64.wrap ((((ByteArray.size p0):Nat):Int) - 1)) > p1))) true (cond ((v_six p0 (1:Int)) == 48) (decide ((((ByteArray.size p0):Nat):Int) > 1)) false)) ((0:Int),false) (lpv ((0:Int),false) (st_Z0_0 p0 p1) ((1:Int),(0:Int)))) (cond (cond (cond ((((ByteArray.size p0):Nat):Int) == 0) true (decide ((IntKind.i64.wrap ((((ByteArray.size p0):Nat):Int) - 0)) > p1))) true (cond ((v_six p0 (0:Int)) == 48) (decide ((((ByteArray.size p0):Nat):Int) > 1)) false)) ((0:Int),false) (lpv ((0:Int),false) (st_Z0_1 p0 p1) (0,0))))
abbrev pre_Z0 (p0:ByteArray) (p1:Int):List Prop := [(((decide ((((ByteArray.size p0):Nat):Int) > 0))=true)→((0:Int) < (((ByteArray.size p0):Nat):Int))),(((cond (decide ((((ByteArray.size p0):Nat):Int) > 0)) ((v_six p0 (0:Int)) == 45) false)=true)→(((cond ((((ByteArray.size p0):Nat):Int) == 1) true (decide ((IntKind.i64.wrap ((((ByteArray.size p0):Nat):Int) - 1)) > p1)))=false)→((1:Int) < (((ByteArray.size p0):Nat):Int)))),(((cond (decide ((((ByteArray.size p0):Nat):Int) > 0)) ((v_six p0 (0:Int)) == 45) false)=true)→(((cond ((((ByteArray.size p0):Nat):Int) == 1) true (decide ((IntKind.i64.wrap ((((ByteArray.size p0):Nat):Int) - 1)) > p1)))=false)→(((!(cond ((((ByteArray.size p0):Nat):Int) == 1) true (decide ((IntKind.i64.wrap ((((ByteArray.size p0):Nat):Int) - 1)) > p1)))) && ((v_six p0 (1:Int)) == 48))=((v_six p0 (1:Int)) == 48)))),(((cond (decide ((((ByteArray.size p0):Nat):Int) > 0)) ((v_six p0 (0:Int)) == 45) false)=true)→(((cond (cond ((((ByteArray.size p0):Nat):Int) == 1) true (decide ((IntKind.i64.wrap ((((ByteArray.size p0):Nat):Int) - 1)) > p1))) true (cond ((v_six p0 (1:Int)) == 48) (decide ((((ByteArray.size p0):Nat):Int) > 1)) false))=false)→(OkL (st_Z0_0 p0 p1) (sp_Z0_0 p0 p1) ((1:Int),(0:Int))))),(((cond (decide ((((ByteArray.size p0):Nat):Int) > 0)) ((v_six p0 (0:Int)) == 45) false)=false)→(((cond ((((ByteArray.size p0):Nat):Int) == 0) true (decide ((IntKind.i64.wrap ((((ByteArray.size p0):Nat):Int) - 0)) > p1)))=false)→((0:Int) < (((ByteArray.size p0):Nat):Int)))),(((cond (decide ((((ByteArray.size p0):Nat):Int) > 0)) ((v_six p0 (0:Int)) == 45) false)=false)→(((cond ((((ByteArray.size p0):Nat):Int) == 0) true (decide ((IntKind.i64.wrap ((((ByteArray.size p0):Nat):Int) - 0)) > p1)))=false)→(((!(cond ((((ByteArray.size p0):Nat):Int) == 0) true (decide ((IntKind.i64.wrap ((((ByteArray.size p0):Nat):Int) - 0)) > p1)))) && ((v_six p0 (0:Int)) == 48))=((v_six p0 (0:Int)) == 48)))),(((cond (decide ((((ByteArray.size p0):Nat):Int) > 0)) ((v_six p0 (0:Int)) == 45) false)=false)→(((cond (cond ((((ByteArray.size p0):Nat):Int) == 0) true (decide ((IntKind.i64.wrap ((((ByteArray.size p0):Nat):Int) - 0)) > p1))) true (cond ((v_six p0 (0:Int)) == 48) (decide ((((ByteArray.size p0):Nat):Int) > 1)) false))=false)→(OkL (st_Z0_1 p0 p1) (sp_Z0_1 p0 p1) (0,0))))]
theorem d_Z0 (p0:ByteArray) (p1:Int) (K:(Int×Bool)→Prop) (hp:∀ p∈pre_Z0 p0 p1,p) (h:K (s_Z0 p0 p1)):w_Z0 p0 p1 K := by
 unfold w_Z0
 unfold s_Z0 at h
 obtain ⟨hp0,hp1,hp2,hp3,hp4,hp5,hp6,_⟩ := conj_of hp
 exact ⟨rf,(fun _ => (od rfl)),(hp0),rf,rfl,(br' h (fun e0 h => ⟨rf,rf,rf,rf,rf,rfl,rf,rf,(fun _ => (od rfl)),(hp1 e0),rf,rf,rf,rf,rf,(hp2 e0),rfl,(br' h (fun e1 h => h)
  (fun e1 h => (loop_gen (hp3 e0 e1) h (fun y2 k2 hp h => by
 unfold st_Z0_0 at h; obtain ⟨hp0,hp1,hp2,hp3,hp4,hp5,_⟩ := conj_of hp
 exact (br' h (fun e3 h => ⟨(hp0 e3),(hp1 e3),rf,rf,(hp2 e3),(hp3 e3),rf,rfl,(br' h (fun e4 h => h)
  (fun e4 h => ⟨(hp4 e3 e4),(hp5 e3 e4),h⟩))⟩)
  (fun e3 h => ⟨fun _ => h,fun e => Bool.noConfusion (show true = false from e)⟩))))))⟩)
  (fun e0 h => ⟨rf,rf,rf,rf,rf,rfl,rf,rf,(fun _ => (od rfl)),(hp4 e0),rf,rf,rf,rf,rf,(hp5 e0),rfl,(br' h (fun e5 h => h)
  (fun e5 h => (loop_gen (hp6 e0 e5) h (fun y6 k6 hp h => by
 unfold st_Z0_1 at h; obtain ⟨hp0,hp1,hp2,hp3,hp4,hp5,_⟩ := conj_of hp
 exact (br' h (fun e7 h => ⟨(hp0 e7),(hp1 e7),rf,rf,(hp2 e7),(hp3 e7),rf,rfl,(br' h (fun e8 h => h)
  (fun e8 h => ⟨(hp4 e7 e8),(hp5 e7 e8),h⟩))⟩)
  (fun e7 h => ⟨nof,fun _ => h⟩))))))⟩))⟩
theorem l_Z0_0 (p0:ByteArray) (p1:Int) (h0:1≤p0.size) (h1:p0.size - 1≤18):OkL (st_Z0_0 p0 p1) (sp_Z0_0 p0 p1) (1,0)∧lpv (0,false) (st_Z0_0 p0 p1) (1,0)=cond ((p0.data.toList.drop 1).all v_dgt) (IntKind.i64.wrap (0 - (v_dval (p0.data.toList.drop 1) 0:Nat)),true) (0,false) := by
 refine num_is (fun n => IntKind.i64.wrap (0 - n)) 1 h0 h1 (by omega) (fun y => by unfold st_Z0_0; rfl) (fun y hy => ?_)
 unfold sp_Z0_0
 simp only [fM,decide_eq_true_eq,decide_eq_false_iff_not]
 and_intros
 all_goals first | (intros; omega) | (simp; done)
theorem l_Z0_1 (p0:ByteArray) (p1:Int) (h1:p0.size≤18):OkL (st_Z0_1 p0 p1) (sp_Z0_1 p0 p1) (0,0)∧lpv (0,false) (st_Z0_1 p0 p1) (0,0)=cond (p0.data.toList.all v_dgt) (((v_dval p0.data.toList 0:Nat):Int),true) (0,false) := by
 refine num_is (fun n => n) 0 (Nat.zero_le _) h1 (by omega) (fun y => by unfold st_Z0_1; rfl) (fun y hy => ?_)
 unfold sp_Z0_1
 simp only [fM,decide_eq_true_eq,decide_eq_false_iff_not]
 and_intros
 all_goals first | (intros; omega) | (simp; done)
abbrev t_Z0 (p0:ByteArray) (p1:Int):Int×Bool := v_nbr p0 p1
abbrev qre_Z0 (p0:ByteArray) (p1:Int):List Prop := [0≤p1,p1≤18,p0.size≤1000000]
theorem x_Z0 (p0:ByteArray):(cond (decide ((p0.size:Int) > 0)) (v_six p0 0 == 45) false)=decide (p0.data.toList.head? = some 45) := by
 have hs := ba_len p0
 cases hl:p0.data.toList with
 | nil => rw [hl] at hs; rw [decide_eq_false (show ¬ (p0.size:Int) > 0 by simp at hs; omega)]; rfl
 | cons b r =>
  rw [hl] at hs
  have h0:0 < p0.size := by simp at hs; omega
  rw [decide_eq_true (show (p0.size:Int) > 0 by omega),cond_true]
  have := v_six_get h0
  rw [show ((0:Nat):Int)=0 from rfl] at this
  rw [this,hl]
  show ((b.toNat:Int) == 45)=decide (some b = some 45)
  rw [u8_of (by decide) (by decide)]
  exact decide_eq_decide.2 ⟨fun e => by rw [e]; rfl,fun e => by simpa using e⟩
theorem x1_Z0 (p0:ByteArray) (r:List UInt8) (hl:p0.data.toList = 45 :: r) (h2:¬ p0.size = 1):(cond (v_six p0 1 == 48) (decide ((p0.size:Int) > 1)) false)=decide (r.head? = some 48) := by
 have hs := ba_len p0
 cases r with
 | nil => rw [hl] at hs; exact absurd hs.symm h2
 | cons c r =>
  rw [hl] at hs
  have h1:1 < p0.size := by simp at hs; omega
  have := v_six_get h1
  rw [show ((1:Nat):Int)=1 from rfl] at this
  rw [this,hl,decide_eq_true (show (p0.size:Int) > 1 by omega)]
  show cond ((c.toNat:Int) == 48) true false = decide (some c = some 48)
  rw [u8_of (by decide) (by decide),show decide (c = UInt8.ofNat (48:Int).toNat)=decide (some c = some (48:UInt8)) from decide_eq_decide.2 ⟨fun e => by rw [e]; rfl,fun e => by simpa using e⟩]
  cases decide (some c = some (48:UInt8)) <;> rfl
theorem x0_Z0 (p0:ByteArray) (h2:¬ p0.size = 0):(v_six p0 0 == 48)=decide (p0.data.toList.head? = some 48) := by
 have hs := ba_len p0
 cases hl:p0.data.toList with
 | nil => rw [hl] at hs; exact absurd hs.symm h2
 | cons c r =>
  have h1:0 < p0.size := by omega
  have := v_six_get h1
  rw [show ((0:Nat):Int)=0 from rfl] at this
  rw [this,hl]
  show ((c.toNat:Int) == 48)=decide (some c = some 48)
  rw [u8_of (by decide) (by decide)]
  exact decide_eq_decide.2 ⟨fun e => by rw [e]; rfl,fun e => by simpa using e⟩
theorem y_Z0 {a b c:Bool} (h:cond (cond a true b) true c = false):a = false∧b = false∧c = false := by cases a <;> cases b <;> cases c <;> first | exact ⟨rfl,rfl,rfl⟩ | cases h
theorem z_Z0 {a b:Bool} (h:cond a true b = false):a = false∧b = false := by cases a <;> cases b <;> first | exact ⟨rfl,rfl⟩ | cases h
theorem pp_Z0 (p0:ByteArray) (p1:Int) (hq:∀ p∈qre_Z0 p0 p1,p):∀ p∈pre_Z0 p0 p1,p := by
 obtain ⟨h1,h2,h3,_⟩ := conj_of hq
 have e1:IntKind.i64.wrap ((p0.size:Int) - 1)=(p0.size:Int) - 1 := wrap_id (by omega) (by omega)
 have e0:IntKind.i64.wrap ((p0.size:Int) - 0)=(p0.size:Int) - 0 := wrap_id (by omega) (by omega)
 simp only [pre_Z0,fM,e1,e0]
 have hpos:(cond (decide ((p0.size:Int) > 0)) (v_six p0 0 == 45) false)=true→0 < p0.size := fun h => by
  by_cases e:(p0.size:Int) > 0
  ·omega
  ·rw [decide_eq_false e] at h; cases h
 refine ⟨fun h => by have := of_decide_eq_true h; omega,fun h g => ?_,fun h g => by rw [g]; rfl,fun h g => ?_,fun h g => ?_,fun h g => by rw [g]; rfl,fun h g => ?_,by simp⟩
 ·have := hpos h
  obtain ⟨g1,_⟩ := z_Z0 g
  have:(p0.size:Int) ≠ 1 := by simpa using g1
  omega
 ·have := hpos h
  obtain ⟨g1,g2,g3⟩ := y_Z0 g
  have := of_decide_eq_false g2
  exact (l_Z0_0 p0 p1 (by omega) (by omega)).1
 ·obtain ⟨g1,_⟩ := z_Z0 g
  have:(p0.size:Int) ≠ 0 := by simpa using g1
  omega
 ·obtain ⟨g1,g2,g3⟩ := y_Z0 g
  have := of_decide_eq_false g2
  exact (l_Z0_1 p0 p1 (by omega)).1
theorem tt_Z0 (p0:ByteArray) (p1:Int) (hq:∀ p∈qre_Z0 p0 p1,p):s_Z0 p0 p1 = t_Z0 p0 p1 := by
 obtain ⟨h1,h2,h3,_⟩ := conj_of hq
 have e1:IntKind.i64.wrap ((p0.size:Int) - 1)=(p0.size:Int) - 1 := wrap_id (by omega) (by omega)
 have e0:IntKind.i64.wrap ((p0.size:Int) - 0)=(p0.size:Int) - 0 := wrap_id (by omega) (by omega)
 have hs := ba_len p0
 unfold s_Z0 t_Z0
 rw [x_Z0,e1,e0]
 by_cases hd:p0.data.toList.head? = some 45
 ·rw [decide_eq_true hd,cond_true]
  obtain ⟨r,hl⟩ : ∃ r,p0.data.toList = 45 :: r := by
   cases hl:p0.data.toList with
   | nil => rw [hl] at hd; cases hd
   | cons b r => rw [hl] at hd; simp at hd; exact ⟨r,by rw [hd]⟩
  rw [v_nbr_neg hl]
  rw [hl] at hs
  have hsr:r.length + 1 = p0.size := hs
  by_cases h2' : p0.size = 1
  ·rw [show ((p0.size:Int) == 1)=true by simp [h2']]; rfl
  ·rw [show ((p0.size:Int) == 1)=false by simp; omega,x1_Z0 p0 r hl h2']
   by_cases hk:(p0.size:Int) - 1 > p1
   ·rw [decide_eq_true hk]; rfl
   ·rw [decide_eq_false hk]
    have hlp := (l_Z0_0 p0 p1 (by omega) (by omega)).2
    rw [hlp,hl,show List.drop 1 ((45:UInt8) :: r)=r from rfl]
    cases hall:r.all v_dgt with
    | false => rfl
    | true =>
     have hlt := v_dval_lt r 0 hall
     have := pow18 (k := r.length) (by omega)
     rw [wrap_id (n := 0 - (v_dval r 0:Int)) (by omega) (by omega),show (0:Int) - (v_dval r 0:Int) = -(v_dval r 0:Int) by omega]
 ·rw [decide_eq_false hd,cond_false,v_nbr_pos hd]
  by_cases h2' : p0.size = 0
  ·rw [show ((p0.size:Int) == 0)=true by simp [h2']]; rfl
  ·rw [show ((p0.size:Int) == 0)=false from beq_false_of_ne (by omega),x0_Z0 p0 h2']
   by_cases hk:(p0.size:Int) - 0 > p1
   ·rw [decide_eq_true hk]; rfl
   ·rw [decide_eq_false hk,(l_Z0_1 p0 p1 (by omega)).2]

abbrev con_Z0:Con := ⟨P_Z0,R_Z0,fun x => qre_Z0 x.1 x.2,fun x => t_Z0 x.1 x.2⟩
theorem ok_Z0:ConOk Tryz.prog 156 con_Z0 := okG k_Z0 e_Z0 hC_Z0 fun x hx => tf_of (w_Z0_eq x.1 x.2 _) (d_Z0 x.1 x.2 _ (pp_Z0 x.1 x.2 hx) (tt_Z0 x.1 x.2 hx))
def C_Zp:Cons := [(156,[],con_Z0)]
theorem hC_Zp:ConsOk Tryz.prog C_Zp := cC ok_Z0 <| ConsOk.nil
def w_Zp (p0:ByteArray) (K:(Int×Bool)→Prop):Prop := ((zz0≤6) ∧(((6:Int)≤18) ∧(((ByteArray.size p0)≤1000000) ∧((((v_nbr p0 (6:Int)).2 = true) →((v_nbr p0 (6:Int)).2 = (v_nbr p0 (6:Int)).2)) ∧((((v_nbr p0 (6:Int)).2 = true) →(zz0≤0)) ∧((((v_nbr p0 (6:Int)).2 = true) →(zz0 < (((ByteArray.size p0):Nat):Int))) ∧((((v_nbr p0 (6:Int)).2 = true) →((v_nbr p0 (6:Int)).2 = (v_nbr p0 (6:Int)).2)) ∧(((v_nbr p0 (6:Int)).2 = (v_nbr p0 (6:Int)).2) ∧(K ((v_nbr p0 (6:Int)).1,(cond (v_nbr p0 (6:Int)).2 ((v_six p0 zz0) != 45) false)))))))))))
theorem w_Zp_eq (p0:ByteArray) (K:(Int×Bool)→Prop):tfn F_Zp A_Zp C_Zp P_Zp R_Zp p0 K = w_Zp p0 K := by kernel_rfl
def s_Zp (p0:ByteArray):(Int×Bool) := ((v_nbr p0 (6:Int)).1,(cond (v_nbr p0 (6:Int)).2 ((v_six p0 (0:Int)) != 45) false))
abbrev pre_Zp (p0:ByteArray):List Prop := [((ByteArray.size p0)≤1000000),(((v_nbr p0 (6:Int)).2 = true)→((0:Int) < (((ByteArray.size p0):Nat):Int)))]
theorem d_Zp (p0:ByteArray) (K:(Int×Bool)→Prop) (hp:∀ p∈pre_Zp p0,p) (h:K (s_Zp p0)):w_Zp p0 K := by
 unfold w_Zp
 unfold s_Zp at h
 obtain ⟨hp0,hp1,_⟩ := conj_of hp
 exact ⟨(od rfl),(od rfl),(hp0),rf,(fun _ => (od rfl)),(hp1),rf,rfl,h⟩
abbrev t_Zp (p0:ByteArray):Int×Bool := v_nat2 p0
abbrev qre_Zp (p0:ByteArray):List Prop := [p0.size≤1000000]
theorem pp_Zp (p0:ByteArray) (hq:∀ p∈qre_Zp p0,p):∀ p∈pre_Zp p0,p := by
 obtain ⟨h3,_⟩ := conj_of hq
 simp only [pre_Zp,fM]
 and_intros
 all_goals first | (intro h; have := v_nbr_ok h; omega) | omega | (simp; done)
theorem tt_Zp (p0:ByteArray) (_hq:∀ p∈qre_Zp p0,p):s_Zp p0 = t_Zp p0 := v_nat2_is p0

abbrev con_Zp:Con := ⟨P_Zp,R_Zp,fun x => qre_Zp x,fun x => t_Zp x⟩
theorem ok_Zp:ConOk Tryz.prog 102 con_Zp := okG k_Zp e_Zp hC_Zp fun x hx => tf_of (w_Zp_eq x _) (d_Zp x _ (pp_Zp x hx) (tt_Zp x hx))
def C_Zn:Cons := [(100,[],con_Zl),(102,[],con_Zp)]
theorem hC_Zn:ConsOk Tryz.prog C_Zn := cC ok_Zl <| cC ok_Zp <| ConsOk.nil
def w_Zn (p0:ByteArray) (p1:Int) (K:(Int×(Int×Bool))→Prop):Prop := ((zz0≤p1) ∧((p1 < 256) ∧(((ByteArray.size p0)≤1000000) ∧(((((((v_ct p0 p1).length:Nat):Int) != 2)=true) →(K (zz0,(zz0,false)))) ∧((((((v_ct p0 p1).length:Nat):Int) != 2)=false) →((zz0 < (((v_ct p0 p1).length:Nat):Int)) ∧(((ByteArray.size (List.getD (v_ct p0 p1) (Int.toNat zz0) (⟨#[]⟩ : ByteArray)))≤1000000) ∧((zz1 < (((v_ct p0 p1).length:Nat):Int)) ∧(((ByteArray.size (List.getD (v_ct p0 p1) (Int.toNat zz1) (⟨#[]⟩ : ByteArray)))≤1000000) ∧(((v_nat2 (List.getD (v_ct p0 p1) (Int.toNat zz0) (⟨#[]⟩ : ByteArray))).2 = (v_nat2 (List.getD (v_ct p0 p1) (Int.toNat zz0) (⟨#[]⟩ : ByteArray))).2) ∧(K ((v_nat2 (List.getD (v_ct p0 p1) (Int.toNat zz0) (⟨#[]⟩ : ByteArray))).1,((v_nat2 (List.getD (v_ct p0 p1) (Int.toNat zz1) (⟨#[]⟩ : ByteArray))).1,(cond (v_nat2 (List.getD (v_ct p0 p1) (Int.toNat zz0) (⟨#[]⟩ : ByteArray))).2 (v_nat2 (List.getD (v_ct p0 p1) (Int.toNat zz1) (⟨#[]⟩ : ByteArray))).2 false))))))))))))))
theorem w_Zn_eq (p0:ByteArray) (p1:Int) (K:(Int×(Int×Bool))→Prop):tfn F_Zn A_Zn C_Zn P_Zn R_Zn (p0,p1) K = w_Zn p0 p1 K := by kernel_rfl
def s_Zn (p0:ByteArray) (p1:Int):(Int×(Int×Bool)) := (cond ((((v_ct p0 p1).length:Nat):Int) != 2) ((0:Int),((0:Int),false)) ((v_nat2 (List.getD (v_ct p0 p1) (Int.toNat (0:Int)) (⟨#[]⟩ : ByteArray))).1,((v_nat2 (List.getD (v_ct p0 p1) (Int.toNat (1:Int)) (⟨#[]⟩ : ByteArray))).1,(cond (v_nat2 (List.getD (v_ct p0 p1) (Int.toNat (0:Int)) (⟨#[]⟩ : ByteArray))).2 (v_nat2 (List.getD (v_ct p0 p1) (Int.toNat (1:Int)) (⟨#[]⟩ : ByteArray))).2 false))))
abbrev pre_Zn (p0:ByteArray) (p1:Int):List Prop := [((0:Int)≤p1),(p1 < 256),((ByteArray.size p0)≤1000000),((((((v_ct p0 p1).length:Nat):Int) != 2)=false)→((0:Int) < (((v_ct p0 p1).length:Nat):Int))),((((((v_ct p0 p1).length:Nat):Int) != 2)=false)→((ByteArray.size (List.getD (v_ct p0 p1) (Int.toNat (0:Int)) (⟨#[]⟩ : ByteArray)))≤1000000)),((((((v_ct p0 p1).length:Nat):Int) != 2)=false)→((1:Int) < (((v_ct p0 p1).length:Nat):Int))),((((((v_ct p0 p1).length:Nat):Int) != 2)=false)→((ByteArray.size (List.getD (v_ct p0 p1) (Int.toNat (1:Int)) (⟨#[]⟩ : ByteArray)))≤1000000))]
theorem d_Zn (p0:ByteArray) (p1:Int) (K:(Int×(Int×Bool))→Prop) (hp:∀ p∈pre_Zn p0 p1,p) (h:K (s_Zn p0 p1)):w_Zn p0 p1 K := by
 unfold w_Zn
 unfold s_Zn at h
 obtain ⟨hp0,hp1,hp2,hp3,hp4,hp5,hp6,_⟩ := conj_of hp
 exact ⟨(hp0),(hp1),(hp2),(br' h (fun e0 h => h)
  (fun e0 h => ⟨(hp3 e0),(hp4 e0),(hp5 e0),(hp6 e0),rfl,h⟩))⟩
abbrev t_Zn (p0:ByteArray) (p1:Int):Int×(Int×Bool) := v_pr2 p0 p1
abbrev qre_Zn (p0:ByteArray) (p1:Int):List Prop := [0≤p1,p1 < 256,p0.size≤1000000]
theorem pp_Zn (p0:ByteArray) (p1:Int) (hq:∀ p∈qre_Zn p0 p1,p):∀ p∈pre_Zn p0 p1,p := by
 obtain ⟨h1,h2,h3,_⟩ := conj_of hq
 have hm:∀ q∈v_ct p0 p1,q.size≤1000000 := fun q hq => Nat.le_trans (v_ct_mem hq) h3
 simp only [pre_Zn,fM]
 rcases v_ct_two (s := p0) (b := p1) with ⟨hl,_⟩ | ⟨p,q,hpq⟩
 ·have e:(((v_ct p0 p1).length:Int) != 2)=true := by simp; omega
  rw [e]
  and_intros
  all_goals first | omega | (intro h; cases h) | (simp; done)
 ·have e1 := hm p (by rw [hpq]; simp)
  have e2 := hm q (by rw [hpq]; simp)
  rw [hpq]
  and_intros
  all_goals first | omega | (intro _; exact e1) | (intro _; exact e2) | (intro _; decide) | (simp; done)
theorem tt_Zn (p0:ByteArray) (p1:Int) (_hq:∀ p∈qre_Zn p0 p1,p):s_Zn p0 p1 = t_Zn p0 p1 := by
 unfold s_Zn t_Zn v_pr2
 rcases v_ct_two (s := p0) (b := p1) with ⟨hl,hne⟩ | ⟨p,q,hpq⟩
 ·have e:(((v_ct p0 p1).length:Int) != 2)=true := by simp; omega
  rw [e,cond_true]
  split
  ·rename_i p q hpq; exact absurd hpq (hne p q)
  ·rfl
 ·rw [hpq]; rfl

abbrev con_Zn:Con := ⟨P_Zn,R_Zn,fun x => qre_Zn x.1 x.2,fun x => t_Zn x.1 x.2⟩
theorem ok_Zn:ConOk Tryz.prog 101 con_Zn := okG k_Zn e_Zn hC_Zn fun x hx => tf_of (w_Zn_eq x.1 x.2 _) (d_Zn x.1 x.2 _ (pp_Zn x.1 x.2 hx) (tt_Zn x.1 x.2 hx))
def C_Zw:Cons := [(104,[],con_Z7)]
theorem hC_Zw:ConsOk Tryz.prog C_Zw := cC ok_Z7 <| ConsOk.nil
def w_Zw (p0:gC) (K:Int→Prop):Prop := (K (v_cm p0).2)
theorem w_Zw_eq (p0:gC) (K:Int→Prop):tfn F_Zw A_Zw C_Zw P_Zw R_Zw p0 K = w_Zw p0 K := by kernel_rfl
def s_Zw (p0:gC):Int := (v_cm p0).2
abbrev pre_Zw (_p0:gC):List Prop := []
theorem d_Zw (p0:gC) (K:Int→Prop) (_hp:∀ p∈pre_Zw p0,p) (h:K (s_Zw p0)):w_Zw p0 K := by
 unfold w_Zw
 unfold s_Zw at h
 exact h
abbrev con_Zw:Con := ⟨P_Zw,R_Zw,fun x => pre_Zw x,fun x => s_Zw x⟩
theorem ok_Zw:ConOk Tryz.prog 36 con_Zw := okG k_Zw e_Zw hC_Zw fun x hx => tf_of (w_Zw_eq x _) (d_Zw x _ hx rfl)
def C_Zh:Cons := [(100,[],con_Zl),(101,[],con_Zn),(36,[],con_Zw)]
theorem hC_Zh:ConsOk Tryz.prog C_Zh := cC ok_Zl <| cC ok_Zn <| cC ok_Zw <| ConsOk.nil
abbrev q0_Zh (p0:ByteArray) (y1:(Int×(List tQA))) := (v_pr2 (List.getD (v_ct p0 (32:Int)) y1.1.toNat (⟨#[]⟩ : ByteArray)) (120:Int))
def w_Zh (p0:ByteArray) (K:((List tQA)×Int)→Prop):Prop := ((((decide ((((ByteArray.size p0):Nat):Int) > 60000))=true) →(K (([]:List tQA),(8:Int)))) ∧(((decide ((((ByteArray.size p0):Nat):Int) > 60000))=false) →((zz0≤32) ∧(((32:Int) < 256) ∧(((ByteArray.size p0)≤1000000) ∧(∃ n0,(loopP (fun (y1:(Int×(List tQA))) k2 => ((((decide (y1.1 < (((v_ct p0 (32:Int)).length:Nat):Int)))=true) →((zz0≤y1.1) ∧((y1.1 < (((v_ct p0 (32:Int)).length:Nat):Int)) ∧((zz0≤120) ∧(((120:Int) < 256) ∧(((ByteArray.size (List.getD (v_ct p0 (32:Int)) y1.1.toNat (⟨#[]⟩ : ByteArray)))≤1000000) ∧((((!(q0_Zh p0 y1).2.2)=true) →(K (([]:List tQA),(7:Int)))) ∧(((!(q0_Zh p0 y1).2.2)=false) →((((y1.2.length + (List.length (((q0_Zh p0 y1).1,(q0_Zh p0 y1).2.1) :: ([]:List tQA)))) * 16)≤140737488355328) ∧(k2 ((wi (y1.1 + zz1)),(y1.2 ++ (((q0_Zh p0 y1).1,(q0_Zh p0 y1).2.1) :: ([]:List tQA)))))))))))))) ∧(((decide (y1.1 < (((v_ct p0 (32:Int)).length:Nat):Int)))=false) →(((((v_cm y1.2).2 != zz0)=true) →(K (([]:List tQA),(v_cm y1.2).2))) ∧((((v_cm y1.2).2 != zz0)=false) →(K (y1.2,zz0))))))) n0 (zz0,([]:List tQA)))))))))
theorem w_Zh_eq (p0:ByteArray) (K:((List tQA)×Int)→Prop):tfn F_Zh A_Zh C_Zh P_Zh R_Zh p0 K = w_Zh p0 K := by kernel_rfl
def st_Zh_0 (p0:ByteArray) (y1:(Int×(List tQA))):(Int×(List tQA)) ⊕ ((List tQA)×Int) := (cond (decide (y1.1 < (((v_ct p0 (32:Int)).length:Nat):Int))) (cond (!(v_pr2 (List.getD (v_ct p0 (32:Int)) y1.1.toNat (⟨#[]⟩ : ByteArray)) (120:Int)).2.2) (Sum.inr (([]:List tQA),(7:Int))) (Sum.inl ((IntKind.i64.wrap (y1.1 + 1)),(y1.2 ++ (((v_pr2 (List.getD (v_ct p0 (32:Int)) y1.1.toNat (⟨#[]⟩ : ByteArray)) (120:Int)).1,(v_pr2 (List.getD (v_ct p0 (32:Int)) y1.1.toNat (⟨#[]⟩ : ByteArray)) (120:Int)).2.1) :: ([]:List tQA)))))) (cond ((v_cm y1.2).2 != 0) (Sum.inr (([]:List tQA),(v_cm y1.2).2)) (Sum.inr (y1.2,(0:Int)))))
abbrev sp_Zh_0 (p0:ByteArray) (y1:(Int×(List tQA))):List Prop := [(((decide (y1.1 < (((v_ct p0 (32:Int)).length:Nat):Int)))=true)→((0:Int)≤y1.1)),(((decide (y1.1 < (((v_ct p0 (32:Int)).length:Nat):Int)))=true)→(y1.1 < (((v_ct p0 (32:Int)).length:Nat):Int))),(((decide (y1.1 < (((v_ct p0 (32:Int)).length:Nat):Int)))=true)→((ByteArray.size (List.getD (v_ct p0 (32:Int)) y1.1.toNat (⟨#[]⟩ : ByteArray)))≤1000000)),(((decide (y1.1 < (((v_ct p0 (32:Int)).length:Nat):Int)))=true)→(((!(v_pr2 (List.getD (v_ct p0 (32:Int)) y1.1.toNat (⟨#[]⟩ : ByteArray)) (120:Int)).2.2)=false)→(((y1.2.length + (List.length (((v_pr2 (List.getD (v_ct p0 (32:Int)) y1.1.toNat (⟨#[]⟩ : ByteArray)) (120:Int)).1,(v_pr2 (List.getD (v_ct p0 (32:Int)) y1.1.toNat (⟨#[]⟩ : ByteArray)) (120:Int)).2.1) :: ([]:List tQA)))) * 16)≤140737488355328)))]
def s_Zh (p0:ByteArray):((List tQA)×Int) := (cond (decide ((((ByteArray.size p0):Nat):Int) > 60000)) (([]:List tQA),(8:Int)) (lpv ([],(0:Int)) (st_Zh_0 p0) ((0:Int),([]:List tQA))))
abbrev pre_Zh (p0:ByteArray):List Prop := [(((decide ((((ByteArray.size p0):Nat):Int) > 60000))=false)→((ByteArray.size p0)≤1000000)),(((decide ((((ByteArray.size p0):Nat):Int) > 60000))=false)→(OkL (st_Zh_0 p0) (sp_Zh_0 p0) ((0:Int),([]:List tQA))))]
theorem d_Zh (p0:ByteArray) (K:((List tQA)×Int)→Prop) (hp:∀ p∈pre_Zh p0,p) (h:K (s_Zh p0)):w_Zh p0 K := by
 unfold w_Zh
 unfold s_Zh at h
 obtain ⟨hp0,hp1,_⟩ := conj_of hp
 exact (br' h (fun e0 h => h)
  (fun e0 h => ⟨(od rfl),(od rfl),(hp0 e0),(loop_gen (hp1 e0) h (fun y1 k1 hp h => by
 unfold st_Zh_0 at h; obtain ⟨hp0,hp1,hp2,hp3,_⟩ := conj_of hp
 exact (br' h (fun e2 h => ⟨(hp0 e2),(hp1 e2),(od rfl),(od rfl),(hp2 e2),(br' h (fun e3 h => h)
  (fun e3 h => ⟨(hp3 e2 e3),h⟩))⟩)
  (fun e2 h => (br' h (fun e4 h => h)
  (fun e4 h => h))))))⟩))
theorem l_Zh_0 (p0:ByteArray) (hs:p0.size≤60000):OkL (st_Zh_0 p0) (sp_Zh_0 p0) (0,[])∧lpv ([],0) (st_Zh_0 p0) (0,[])=v_prsl (fun w => v_opt2 w 120) (fun l => (v_cm l).2) (v_ct p0 32) := by
 refine prs_lp (f := (fun w => v_opt2 w 120)) (e := (fun l => (v_cm l).2)) (l := v_ct p0 32) (fun y => ?_) (fun j o hj ho hz => ?_) (by have := v_ct_len p0 32; omega) (fun z hz => Nat.le_trans (v_ct_mem hz) hs)
 ·unfold st_Zh_0
  obtain ⟨w,hw⟩ : ∃ w,(v_ct p0 32).getD y.1.toNat (⟨#[]⟩ : ByteArray)=w := ⟨_,rfl⟩
  simp only [hw]
  cases h:v_opt2 w 120 with
  | none => rw [v_pr2_none h]; rfl
  | some x =>
   obtain ⟨a,b⟩ := x
   rw [v_pr2_some h]; rfl
 ·unfold sp_Zh_0
  simp only [fM,Int.toNat_natCast,List.length_cons,List.length_nil,decide_eq_true_eq]
  and_intros
  all_goals first | (intros; omega) | (simp; done)
abbrev t_Zh (p0:ByteArray):List tQA×Int := v_prs (fun w => v_opt2 w 120) (fun l => (v_cm l).2) p0
abbrev qre_Zh (_p0:ByteArray):List Prop := []
theorem pp_Zh (p0:ByteArray) (_hq:∀ p∈qre_Zh p0,p):∀ p∈pre_Zh p0,p := by
 simp only [pre_Zh,fM]
 refine ⟨fun h => ?_,fun h => (l_Zh_0 p0 ?_).1,by simp⟩
 ·have := of_decide_eq_false h; omega
 ·have := of_decide_eq_false h; omega
theorem tt_Zh (p0:ByteArray) (_hq:∀ p∈qre_Zh p0,p):s_Zh p0 = t_Zh p0 := by
 unfold s_Zh t_Zh v_prs
 cases h:decide ((p0.size:Int) > 60000) with
 | true => rfl
 | false => rw [(l_Zh_0 p0 (by have := of_decide_eq_false h; omega)).2]

abbrev con_Zh:Con := ⟨P_Zh,R_Zh,fun x => qre_Zh x,fun x => t_Zh x⟩
theorem ok_Zh:ConOk Tryz.prog 30 con_Zh := okG k_Zh e_Zh hC_Zh fun x hx => tf_of (w_Zh_eq x _) (d_Zh x _ (pp_Zh x hx) (tt_Zh x hx))
def C_Zx:Cons := [(105,[],con_Z1)]
theorem hC_Zx:ConsOk Tryz.prog C_Zx := cC ok_Z1 <| ConsOk.nil
def w_Zx (p0:gB) (K:Int→Prop):Prop := (K (v_cd p0).2)
theorem w_Zx_eq (p0:gB) (K:Int→Prop):tfn F_Zx A_Zx C_Zx P_Zx R_Zx p0 K = w_Zx p0 K := by kernel_rfl
def s_Zx (p0:gB):Int := (v_cd p0).2
abbrev pre_Zx (_p0:gB):List Prop := []
theorem d_Zx (p0:gB) (K:Int→Prop) (_hp:∀ p∈pre_Zx p0,p) (h:K (s_Zx p0)):w_Zx p0 K := by
 unfold w_Zx
 unfold s_Zx at h
 exact h
abbrev con_Zx:Con := ⟨P_Zx,R_Zx,fun x => pre_Zx x,fun x => s_Zx x⟩
theorem ok_Zx:ConOk Tryz.prog 37 con_Zx := okG k_Zx e_Zx hC_Zx fun x hx => tf_of (w_Zx_eq x _) (d_Zx x _ hx rfl)
def C_Z9:Cons := [(100,[],con_Zl),(102,[],con_Zp),(101,[],con_Zn),(37,[],con_Zx)]
theorem hC_Z9:ConsOk Tryz.prog C_Z9 := cC ok_Zl <| cC ok_Zp <| cC ok_Zn <| cC ok_Zx <| ConsOk.nil
abbrev q0_Z9 (p0:ByteArray) (y1:(Int×(List tQB))) := (v_ct (List.getD (v_ct p0 (32:Int)) y1.1.toNat (⟨#[]⟩ : ByteArray)) (58:Int))
abbrev q1_Z9 (p0:ByteArray) (y1:(Int×(List tQB))) := (v_nat2 (List.getD (q0_Z9 p0 y1) (Int.toNat zz0) (⟨#[]⟩ : ByteArray)))
abbrev q2_Z9 (p0:ByteArray) (y1:(Int×(List tQB))) := (v_pr2 (List.getD (q0_Z9 p0 y1) (Int.toNat zz1) (⟨#[]⟩ : ByteArray)) (44:Int))
def w_Z9 (p0:ByteArray) (K:((List tQB)×Int)→Prop):Prop := ((((decide ((((ByteArray.size p0):Nat):Int) > 60000))=true) →(K (([]:List tQB),(8:Int)))) ∧(((decide ((((ByteArray.size p0):Nat):Int) > 60000))=false) →((zz0≤32) ∧(((32:Int) < 256) ∧(((ByteArray.size p0)≤1000000) ∧(∃ n0,(loopP (fun (y1:(Int×(List tQB))) k2 => ((((decide (y1.1 < (((v_ct p0 (32:Int)).length:Nat):Int)))=true) →((zz0≤y1.1) ∧((y1.1 < (((v_ct p0 (32:Int)).length:Nat):Int)) ∧((zz0≤58) ∧(((58:Int) < 256) ∧(((ByteArray.size (List.getD (v_ct p0 (32:Int)) y1.1.toNat (⟨#[]⟩ : ByteArray)))≤1000000) ∧(((((((q0_Z9 p0 y1).length:Nat):Int) != zz2)=true) →(K (([]:List tQB),(7:Int)))) ∧((((((q0_Z9 p0 y1).length:Nat):Int) != zz2)=false) →((zz0 < (((q0_Z9 p0 y1).length:Nat):Int)) ∧(((ByteArray.size (List.getD (q0_Z9 p0 y1) (Int.toNat zz0) (⟨#[]⟩ : ByteArray)))≤1000000) ∧((zz1 < (((q0_Z9 p0 y1).length:Nat):Int)) ∧((zz0≤44) ∧(((44:Int) < 256) ∧(((ByteArray.size (List.getD (q0_Z9 p0 y1) (Int.toNat zz1) (⟨#[]⟩ : ByteArray)))≤1000000) ∧((((!(q1_Z9 p0 y1).2)=false) →((!(q1_Z9 p0 y1).2)=(!(q1_Z9 p0 y1).2))) ∧(((!(q1_Z9 p0 y1).2)=(!(q1_Z9 p0 y1).2)) ∧((((cond (!(q1_Z9 p0 y1).2) true (!(q2_Z9 p0 y1).2.2))=true) →(K (([]:List tQB),(7:Int)))) ∧(((cond (!(q1_Z9 p0 y1).2) true (!(q2_Z9 p0 y1).2.2))=false) →((((y1.2.length + (List.length (((q1_Z9 p0 y1).1,((q2_Z9 p0 y1).1,(q2_Z9 p0 y1).2.1)) :: ([]:List tQB)))) * 24)≤140737488355328) ∧(k2 ((wi (y1.1 + zz1)),(y1.2 ++ (((q1_Z9 p0 y1).1,((q2_Z9 p0 y1).1,(q2_Z9 p0 y1).2.1)) :: ([]:List tQB)))))))))))))))))))))))) ∧(((decide (y1.1 < (((v_ct p0 (32:Int)).length:Nat):Int)))=false) →(((((v_cd y1.2).2 != zz0)=true) →(K (([]:List tQB),(v_cd y1.2).2))) ∧((((v_cd y1.2).2 != zz0)=false) →(K (y1.2,zz0))))))) n0 (zz0,([]:List tQB)))))))))
theorem w_Z9_eq (p0:ByteArray) (K:((List tQB)×Int)→Prop):tfn F_Z9 A_Z9 C_Z9 P_Z9 R_Z9 p0 K = w_Z9 p0 K := by kernel_rfl
def st_Z9_0 (p0:ByteArray) (y1:(Int×(List tQB))):(Int×(List tQB)) ⊕ ((List tQB)×Int) := (cond (decide (y1.1 < (((v_ct p0 (32:Int)).length:Nat):Int))) (cond ((((List.length (v_ct (List.getD (v_ct p0 (32:Int)) y1.1.toNat (⟨#[]⟩ : ByteArray)) (58:Int))):Nat):Int) != 2) (Sum.inr (([]:List tQB),(7:Int))) (cond (cond (!(v_nat2 (List.getD (v_ct (List.getD (v_ct p0 (32:Int)) y1.1.toNat (⟨#[]⟩ : ByteArray)) (58:Int)) (Int.toNat (0:Int)) (⟨#[]⟩ : ByteArray))).2) true (!(v_pr2 (List.getD (v_ct (List.getD (v_ct p0 (32:Int)) y1.1.toNat (⟨#[]⟩ : ByteArray)) (58:Int)) (Int.toNat (1:Int)) (⟨#[]⟩ : ByteArray)) (44:Int)).2.2)) (Sum.inr (([]:List tQB),(7:Int))) (Sum.inl ((IntKind.i64.wrap (y1.1 + 1)),(y1.2 ++ (((v_nat2 (List.getD (v_ct (List.getD (v_ct p0 (32:Int)) y1.1.toNat (⟨#[]⟩ : ByteArray)) (58:Int)) (Int.toNat (0:Int)) (⟨#[]⟩ : ByteArray))).1,((v_pr2 (List.getD (v_ct (List.getD (v_ct p0 (32:Int)) y1.1.toNat (⟨#[]⟩ : ByteArray)) (58:Int)) (Int.toNat (1:Int)) (⟨#[]⟩ : ByteArray)) (44:Int)).1,(v_pr2 (List.getD (v_ct (List.getD (v_ct p0 (32:Int)) y1.1.toNat (⟨#[]⟩ : ByteArray)) (58:Int)) (Int.toNat (1:Int)) (⟨#[]⟩ : ByteArray)) (44:Int)).2.1)) :: ([]:List tQB))))))) (cond ((v_cd y1.2).2 != 0) (Sum.inr (([]:List tQB),(v_cd y1.2).2)) (Sum.inr (y1.2,(0:Int)))))
abbrev sp_Z9_0 (p0:ByteArray) (y1:(Int×(List tQB))):List Prop := [(((decide (y1.1 < (((v_ct p0 (32:Int)).length:Nat):Int)))=true)→((0:Int)≤y1.1)),(((decide (y1.1 < (((v_ct p0 (32:Int)).length:Nat):Int)))=true)→(y1.1 < (((v_ct p0 (32:Int)).length:Nat):Int))),(((decide (y1.1 < (((v_ct p0 (32:Int)).length:Nat):Int)))=true)→((ByteArray.size (List.getD (v_ct p0 (32:Int)) y1.1.toNat (⟨#[]⟩ : ByteArray)))≤1000000)),(((decide (y1.1 < (((v_ct p0 (32:Int)).length:Nat):Int)))=true)→((((((List.length (v_ct (List.getD (v_ct p0 (32:Int)) y1.1.toNat (⟨#[]⟩ : ByteArray)) (58:Int))):Nat):Int) != 2)=false)→((0:Int) < (((List.length (v_ct (List.getD (v_ct p0 (32:Int)) y1.1.toNat (⟨#[]⟩ : ByteArray)) (58:Int))):Nat):Int)))),(((decide (y1.1 < (((v_ct p0 (32:Int)).length:Nat):Int)))=true)→((((((List.length (v_ct (List.getD (v_ct p0 (32:Int)) y1.1.toNat (⟨#[]⟩ : ByteArray)) (58:Int))):Nat):Int) != 2)=false)→((ByteArray.size (List.getD (v_ct (List.getD (v_ct p0 (32:Int)) y1.1.toNat (⟨#[]⟩ : ByteArray)) (58:Int)) (Int.toNat (0:Int)) (⟨#[]⟩ : ByteArray)))≤1000000))),(((decide (y1.1 < (((v_ct p0 (32:Int)).length:Nat):Int)))=true)→((((((List.length (v_ct (List.getD (v_ct p0 (32:Int)) y1.1.toNat (⟨#[]⟩ : ByteArray)) (58:Int))):Nat):Int) != 2)=false)→((1:Int) < (((List.length (v_ct (List.getD (v_ct p0 (32:Int)) y1.1.toNat (⟨#[]⟩ : ByteArray)) (58:Int))):Nat):Int)))),(((decide (y1.1 < (((v_ct p0 (32:Int)).length:Nat):Int)))=true)→((((((List.length (v_ct (List.getD (v_ct p0 (32:Int)) y1.1.toNat (⟨#[]⟩ : ByteArray)) (58:Int))):Nat):Int) != 2)=false)→((ByteArray.size (List.getD (v_ct (List.getD (v_ct p0 (32:Int)) y1.1.toNat (⟨#[]⟩ : ByteArray)) (58:Int)) (Int.toNat (1:Int)) (⟨#[]⟩ : ByteArray)))≤1000000))),(((decide (y1.1 < (((v_ct p0 (32:Int)).length:Nat):Int)))=true)→((((((List.length (v_ct (List.getD (v_ct p0 (32:Int)) y1.1.toNat (⟨#[]⟩ : ByteArray)) (58:Int))):Nat):Int) != 2)=false)→(((cond (!(v_nat2 (List.getD (v_ct (List.getD (v_ct p0 (32:Int)) y1.1.toNat (⟨#[]⟩ : ByteArray)) (58:Int)) (Int.toNat (0:Int)) (⟨#[]⟩ : ByteArray))).2) true (!(v_pr2 (List.getD (v_ct (List.getD (v_ct p0 (32:Int)) y1.1.toNat (⟨#[]⟩ : ByteArray)) (58:Int)) (Int.toNat (1:Int)) (⟨#[]⟩ : ByteArray)) (44:Int)).2.2))=false)→(((y1.2.length + (List.length (((v_nat2 (List.getD (v_ct (List.getD (v_ct p0 (32:Int)) y1.1.toNat (⟨#[]⟩ : ByteArray)) (58:Int)) (Int.toNat (0:Int)) (⟨#[]⟩ : ByteArray))).1,((v_pr2 (List.getD (v_ct (List.getD (v_ct p0 (32:Int)) y1.1.toNat (⟨#[]⟩ : ByteArray)) (58:Int)) (Int.toNat (1:Int)) (⟨#[]⟩ : ByteArray)) (44:Int)).1,(v_pr2 (List.getD (v_ct (List.getD (v_ct p0 (32:Int)) y1.1.toNat (⟨#[]⟩ : ByteArray)) (58:Int)) (Int.toNat (1:Int)) (⟨#[]⟩ : ByteArray)) (44:Int)).2.1)) :: ([]:List tQB)))) * 24)≤140737488355328))))]
def s_Z9 (p0:ByteArray):((List tQB)×Int) := (cond (decide ((((ByteArray.size p0):Nat):Int) > 60000)) (([]:List tQB),(8:Int)) (lpv ([],(0:Int)) (st_Z9_0 p0) ((0:Int),([]:List tQB))))
abbrev pre_Z9 (p0:ByteArray):List Prop := [(((decide ((((ByteArray.size p0):Nat):Int) > 60000))=false)→((ByteArray.size p0)≤1000000)),(((decide ((((ByteArray.size p0):Nat):Int) > 60000))=false)→(OkL (st_Z9_0 p0) (sp_Z9_0 p0) ((0:Int),([]:List tQB))))]
theorem d_Z9 (p0:ByteArray) (K:((List tQB)×Int)→Prop) (hp:∀ p∈pre_Z9 p0,p) (h:K (s_Z9 p0)):w_Z9 p0 K := by
 unfold w_Z9
 unfold s_Z9 at h
 obtain ⟨hp0,hp1,_⟩ := conj_of hp
 exact (br' h (fun e0 h => h)
  (fun e0 h => ⟨(od rfl),(od rfl),(hp0 e0),(loop_gen (hp1 e0) h (fun y1 k1 hp h => by
 unfold st_Z9_0 at h; obtain ⟨hp0,hp1,hp2,hp3,hp4,hp5,hp6,hp7,_⟩ := conj_of hp
 exact (br' h (fun e2 h => ⟨(hp0 e2),(hp1 e2),(od rfl),(od rfl),(hp2 e2),(br' h (fun e3 h => h)
  (fun e3 h => ⟨(hp3 e2 e3),(hp4 e2 e3),(hp5 e2 e3),(od rfl),(od rfl),(hp6 e2 e3),rf,rfl,(br' h (fun e4 h => h)
  (fun e4 h => ⟨(hp7 e2 e3 e4),h⟩))⟩))⟩)
  (fun e2 h => (br' h (fun e5 h => h)
  (fun e5 h => h))))))⟩))
theorem l_Z9_0 (p0:ByteArray) (hs:p0.size≤60000):OkL (st_Z9_0 p0) (sp_Z9_0 p0) (0,[])∧lpv ([],0) (st_Z9_0 p0) (0,[])=v_prsl (fun w => v_opt3 w 58 44) (fun l => (v_cd l).2) (v_ct p0 32) := by
 refine prs_lp (f := (fun w => v_opt3 w 58 44)) (e := (fun l => (v_cd l).2)) (l := v_ct p0 32) (fun y => ?_) (fun j o hj ho hz => ?_) (by have := v_ct_len p0 32; omega) (fun z hz => Nat.le_trans (v_ct_mem hz) hs)
 ·unfold st_Z9_0
  obtain ⟨w,hw⟩ : ∃ w,(v_ct p0 32).getD y.1.toNat (⟨#[]⟩ : ByteArray)=w := ⟨_,rfl⟩
  simp only [hw]
  congr 1
  unfold v_opt3
  rcases v_ct_two (s := w) (b := 58) with ⟨hl,hne⟩ | ⟨p,q,hpq⟩
  ·have e:(((v_ct w 58).length:Int) != 2)=true := by simp; omega
   rw [e,cond_true]
   split
   ·rename_i h
    split at h
    ·rename_i p q hpq; exact absurd hpq (hne p q)
    ·cases h
   ·rfl
  ·rw [hpq]
   show (cond (cond (!(v_nat2 p).2) true (!(v_pr2 q 44).2.2)) _ (Sum.inl (_,(y.2 ++ [((v_nat2 p).1,((v_pr2 q 44).1,(v_pr2 q 44).2.1))]))))=_
   dsimp only
   cases hp:v_nt p with
   | none => rw [v_nat2_none hp]; rfl
   | some a =>
    rw [v_nat2_some hp]
    cases hq:v_opt2 q 44 with
    | none => rw [v_pr2_none hq]; rfl
    | some bc =>
     obtain ⟨b,c⟩ := bc
     rw [v_pr2_some hq]; rfl
 ·unfold sp_Z9_0
  simp only [fM,Int.toNat_natCast,List.length_cons,List.length_nil,decide_eq_true_eq]
  obtain ⟨w,hw⟩ : ∃ w,(v_ct p0 32).getD j (⟨#[]⟩ : ByteArray)=w := ⟨_,rfl⟩
  rw [hw] at hz
  simp only [hw]
  have hpc:∀ i,((v_ct w 58).getD i (⟨#[]⟩ : ByteArray)).size≤1000000 := fun i => by
   rcases Nat.lt_or_ge i (v_ct w 58).length with h | h
   ·have := v_ct_mem (getD_mem' (⟨#[]⟩ : ByteArray) h)
    omega
   ·rw [List.getD_eq_getElem?_getD,List.getElem?_eq_none h]; exact Nat.zero_le _
  have h2:(((v_ct w 58).length:Int) != 2)=false→(v_ct w 58).length = 2 := fun h => by
   have:((v_ct w 58).length:Int)=2 := by simpa using h
   omega
  and_intros
  all_goals first | (intros; omega) | (intros; exact hpc _) | (intro _ h; rw [h2 h]; decide) | (intro _ h; have := h2 h; omega) | (simp; done)
abbrev t_Z9 (p0:ByteArray):List (Int×Int×Int)×Int := v_prs (fun w => v_opt3 w 58 44) (fun l => (v_cd l).2) p0
abbrev qre_Z9 (_p0:ByteArray):List Prop := []
theorem pp_Z9 (p0:ByteArray) (_hq:∀ p∈qre_Z9 p0,p):∀ p∈pre_Z9 p0,p := by
 simp only [pre_Z9,fM]
 refine ⟨fun h => ?_,fun h => (l_Z9_0 p0 ?_).1,by simp⟩
 ·have := of_decide_eq_false h; omega
 ·have := of_decide_eq_false h; omega
theorem tt_Z9 (p0:ByteArray) (_hq:∀ p∈qre_Z9 p0,p):s_Z9 p0 = t_Z9 p0 := by
 unfold s_Z9 t_Z9 v_prs
 cases h:decide ((p0.size:Int) > 60000) with
 | true => rfl
 | false => rw [(l_Z9_0 p0 (by have := of_decide_eq_false h; omega)).2]

abbrev con_Z9:Con := ⟨P_Z9,R_Z9,fun x => qre_Z9 x,fun x => t_Z9 x⟩
theorem ok_Z9:ConOk Tryz.prog 31 con_Z9 := okG k_Z9 e_Z9 hC_Z9 fun x hx => tf_of (w_Z9_eq x _) (d_Z9 x _ (pp_Z9 x hx) (tt_Z9 x hx))
def C_Zo:Cons := []
theorem hC_Zo:ConsOk Tryz.prog C_Zo := ConsOk.nil
def w_Zo (p0:Int) (K:Int→Prop):Prop := (K (max p0 (IntKind.i64.wrap (zz0 - p0))))
theorem w_Zo_eq (p0:Int) (K:Int→Prop):tfn F_Zo A_Zo C_Zo P_Zo R_Zo p0 K = w_Zo p0 K := by kernel_rfl
def s_Zo (p0:Int):Int := (max p0 (IntKind.i64.wrap ((0:Int) - p0)))
abbrev pre_Zo (_p0:Int):List Prop := []
theorem d_Zo (p0:Int) (K:Int→Prop) (_hp:∀ p∈pre_Zo p0,p) (h:K (s_Zo p0)):w_Zo p0 K := by
 unfold w_Zo
 unfold s_Zo at h
 exact h
abbrev con_Zo:Con := ⟨P_Zo,R_Zo,fun x => pre_Zo x,fun x => s_Zo x⟩
theorem ok_Zo:ConOk Tryz.prog 135 con_Zo := okG k_Zo e_Zo hC_Zo fun x hx => tf_of (w_Zo_eq x _) (d_Zo x _ hx rfl)
def C_Zf:Cons := [(135,[],con_Zo)]
theorem hC_Zf:ConsOk Tryz.prog C_Zf := cC ok_Zo <| ConsOk.nil
def w_Zf (p0:Int) (K:ByteArray→Prop):Prop := ((((p0 == 0)=true) →(K (⟨#[48]⟩ : ByteArray))) ∧(((p0 == 0)=false) →((((decide (p0 < 0))=true) →(∃ n0,(loopP (fun (y1:(Int×ByteArray)) k2 => ((((y1.1 != 0)=true) →((v_bts ((IntKind.wrap .u8 (IntKind.i64.wrap ((48:Int) + (s_Zo (Int.tmod y1.1 (10:Int)))))) :: ([]:List Int))) ∧((((((ByteArray.size (v_sof ((IntKind.wrap .u8 (IntKind.i64.wrap ((48:Int) + (s_Zo (Int.tmod y1.1 (10:Int)))))) :: ([]:List Int)))):Nat):Int) + (((ByteArray.size y1.2):Nat):Int))≤9223372036854775807) ∧(k2 ((IntKind.i64.wrap (Int.tdiv y1.1 (10:Int))),(v_scat (v_sof ((IntKind.wrap .u8 (IntKind.i64.wrap ((48:Int) + (s_Zo (Int.tmod y1.1 (10:Int)))))) :: ([]:List Int))) y1.2)))))) ∧(((y1.1 != 0)=false) →((((((ByteArray.size (⟨#[45]⟩ : ByteArray)):Nat):Int) + (((ByteArray.size y1.2):Nat):Int))≤9223372036854775807) ∧(K (v_scat (⟨#[45]⟩ : ByteArray) y1.2)))))) n0 (p0,(⟨#[]⟩ : ByteArray))))) ∧(((decide (p0 < 0))=false) →(∃ n3,(loopP (fun (y4:(Int×ByteArray)) k5 => ((((y4.1 != 0)=true) →((v_bts ((IntKind.wrap .u8 (IntKind.i64.wrap ((48:Int) + (s_Zo (Int.tmod y4.1 (10:Int)))))) :: ([]:List Int))) ∧((((((ByteArray.size (v_sof ((IntKind.wrap .u8 (IntKind.i64.wrap ((48:Int) + (s_Zo (Int.tmod y4.1 (10:Int)))))) :: ([]:List Int)))):Nat):Int) + (((ByteArray.size y4.2):Nat):Int))≤9223372036854775807) ∧(k5 ((IntKind.i64.wrap (Int.tdiv y4.1 (10:Int))),(v_scat (v_sof ((IntKind.wrap .u8 (IntKind.i64.wrap ((48:Int) + (s_Zo (Int.tmod y4.1 (10:Int)))))) :: ([]:List Int))) y4.2)))))) ∧(((y4.1 != 0)=false) →((((((ByteArray.size (⟨#[]⟩ : ByteArray)):Nat):Int) + (((ByteArray.size y4.2):Nat):Int))≤9223372036854775807) ∧(K (v_scat (⟨#[]⟩ : ByteArray) y4.2)))))) n3 (p0,(⟨#[]⟩ : ByteArray))))))))
theorem w_Zf_eq (p0:Int) (K:ByteArray→Prop):tfn F_Zf A_Zf C_Zf P_Zf R_Zf p0 K = w_Zf p0 K := by kernel_rfl
def st_Zf_0 (_p0:Int) (y2:(Int×ByteArray)):(Int×ByteArray) ⊕ ByteArray := (cond (y2.1 != 0) (Sum.inl ((IntKind.i64.wrap (Int.tdiv y2.1 (10:Int))),(v_scat (v_sof ((IntKind.wrap .u8 (IntKind.i64.wrap ((48:Int) + (s_Zo (Int.tmod y2.1 (10:Int)))))) :: ([]:List Int))) y2.2))) (Sum.inr (v_scat (⟨#[45]⟩ : ByteArray) y2.2)))
abbrev sp_Zf_0 (_p0:Int) (y2:(Int×ByteArray)):List Prop := [(((y2.1 != 0)=true)→(v_bts ((IntKind.wrap .u8 (IntKind.i64.wrap ((48:Int) + (s_Zo (Int.tmod y2.1 (10:Int)))))) :: ([]:List Int)))),(((y2.1 != 0)=true)→(((((ByteArray.size (v_sof ((IntKind.wrap .u8 (IntKind.i64.wrap ((48:Int) + (s_Zo (Int.tmod y2.1 (10:Int)))))) :: ([]:List Int)))):Nat):Int) + (((ByteArray.size y2.2):Nat):Int))≤9223372036854775807)),(((y2.1 != 0)=false)→(((((ByteArray.size (⟨#[45]⟩ : ByteArray)):Nat):Int) + (((ByteArray.size y2.2):Nat):Int))≤9223372036854775807))]
def st_Zf_1 (_p0:Int) (y4:(Int×ByteArray)):(Int×ByteArray) ⊕ ByteArray := (cond (y4.1 != 0) (Sum.inl ((IntKind.i64.wrap (Int.tdiv y4.1 (10:Int))),(v_scat (v_sof ((IntKind.wrap .u8 (IntKind.i64.wrap ((48:Int) + (s_Zo (Int.tmod y4.1 (10:Int)))))) :: ([]:List Int))) y4.2))) (Sum.inr (v_scat (⟨#[]⟩ : ByteArray) y4.2)))
abbrev sp_Zf_1 (_p0:Int) (y4:(Int×ByteArray)):List Prop := [(((y4.1 != 0)=true)→(v_bts ((IntKind.wrap .u8 (IntKind.i64.wrap ((48:Int) + (s_Zo (Int.tmod y4.1 (10:Int)))))) :: ([]:List Int)))),(((y4.1 != 0)=true)→(((((ByteArray.size (v_sof ((IntKind.wrap .u8 (IntKind.i64.wrap ((48:Int) + (s_Zo (Int.tmod y4.1 (10:Int)))))) :: ([]:List Int)))):Nat):Int) + (((ByteArray.size y4.2):Nat):Int))≤9223372036854775807)),(((y4.1 != 0)=false)→(((((ByteArray.size (⟨#[]⟩ : ByteArray)):Nat):Int) + (((ByteArray.size y4.2):Nat):Int))≤9223372036854775807))]
def s_Zf (p0:Int):ByteArray := (cond (p0 == 0) (⟨#[48]⟩ : ByteArray) (cond (decide (p0 < 0)) (lpv (⟨#[]⟩ : ByteArray) (st_Zf_0 p0) (p0,(⟨#[]⟩ : ByteArray))) (lpv (⟨#[]⟩ : ByteArray) (st_Zf_1 p0) (p0,(⟨#[]⟩ : ByteArray)))))
abbrev pre_Zf (p0:Int):List Prop := [(((p0 == 0)=false)→(((decide (p0 < 0))=true)→(OkL (st_Zf_0 p0) (sp_Zf_0 p0) (p0,(⟨#[]⟩ : ByteArray))))),(((p0 == 0)=false)→(((decide (p0 < 0))=false)→(OkL (st_Zf_1 p0) (sp_Zf_1 p0) (p0,(⟨#[]⟩ : ByteArray)))))]
theorem d_Zf (p0:Int) (K:ByteArray→Prop) (hp:∀ p∈pre_Zf p0,p) (h:K (s_Zf p0)):w_Zf p0 K := by
 unfold w_Zf
 unfold s_Zf at h
 obtain ⟨hp0,hp1,_⟩ := conj_of hp
 exact (br' h (fun e0 h => h)
  (fun e0 h => (br' h (fun e1 h => (loop_gen (hp0 e0 e1) h (fun y2 k2 hp h => by
 unfold st_Zf_0 at h; obtain ⟨hp0,hp1,hp2,_⟩ := conj_of hp
 exact (br' h (fun e3 h => ⟨(hp0 e3),(hp1 e3),h⟩)
  (fun e3 h => ⟨(hp2 e3),h⟩)))))
  (fun e1 h => (loop_gen (hp1 e0 e1) h (fun y4 k4 hp h => by
 unfold st_Zf_1 at h; obtain ⟨hp0,hp1,hp2,_⟩ := conj_of hp
 exact (br' h (fun e5 h => ⟨(hp0 e5),(hp1 e5),h⟩)
  (fun e5 h => ⟨(hp2 e5),h⟩))))))))
theorem l_Zf_0 (p0 n:Int) (h1 : -9223372036854775808≤n) (h2:n≤9223372036854775807):OkL (st_Zf_0 p0) (sp_Zf_0 p0) (n,(⟨#[]⟩ : ByteArray))∧lpv (⟨#[]⟩ : ByteArray) (st_Zf_0 p0) (n,(⟨#[]⟩ : ByteArray))=v_scat ⟨#[45]⟩ (v_ddb n) := by
 refine dec_is (fun y => ?_) (fun y hy => ?_) (Nat.le_refl _) n h1 h2
 ·unfold st_Zf_0 s_Zo
  rw [v_dgb_is]
 ·obtain ⟨a,b,c⟩ := hy
  unfold sp_Zf_0 s_Zo
  rw [v_dgb_is]
  simp only [fM]
  exact ⟨fun h => a (by simpa using h),fun h => b (by simpa using h),fun h => c (by simpa using h),by simp⟩
theorem l_Zf_1 (p0 n:Int) (h1 : -9223372036854775808≤n) (h2:n≤9223372036854775807):OkL (st_Zf_1 p0) (sp_Zf_1 p0) (n,(⟨#[]⟩ : ByteArray))∧lpv (⟨#[]⟩ : ByteArray) (st_Zf_1 p0) (n,(⟨#[]⟩ : ByteArray))=v_scat ⟨#[]⟩ (v_ddb n) := by
 refine dec_is (fun y => ?_) (fun y hy => ?_) (Nat.zero_le _) n h1 h2
 ·unfold st_Zf_1 s_Zo
  rw [v_dgb_is]
 ·obtain ⟨a,b,c⟩ := hy
  unfold sp_Zf_1 s_Zo
  rw [v_dgb_is]
  simp only [fM]
  exact ⟨fun h => a (by simpa using h),fun h => b (by simpa using h),fun h => c (by simpa using h),by simp⟩
abbrev t_Zf (p0:Int):ByteArray := v_itoa p0
abbrev qre_Zf (p0:Int):List Prop := [-9223372036854775808≤p0,p0≤9223372036854775807]
theorem pp_Zf (p0:Int) (hq:∀ p∈qre_Zf p0,p):∀ p∈pre_Zf p0,p := by
 obtain ⟨h1,h2,_⟩ := conj_of hq
 simp only [pre_Zf,fM]
 exact ⟨fun _ _ => (l_Zf_0 p0 p0 h1 h2).1,fun _ _ => (l_Zf_1 p0 p0 h1 h2).1,by simp⟩
theorem tt_Zf (p0:Int) (hq:∀ p∈qre_Zf p0,p):s_Zf p0 = t_Zf p0 := by
 obtain ⟨h1,h2,_⟩ := conj_of hq
 unfold s_Zf t_Zf
 rw [(l_Zf_0 p0 p0 h1 h2).2,(l_Zf_1 p0 p0 h1 h2).2,v_itoa_dd]

abbrev con_Zf:Con := ⟨P_Zf,R_Zf,fun x => qre_Zf x,fun x => t_Zf x⟩
theorem ok_Zf:ConOk Tryz.prog 103 con_Zf := okG k_Zf e_Zf hC_Zf fun x hx => tf_of (w_Zf_eq x _) (d_Zf x _ (pp_Zf x hx) (tt_Zf x hx))
def C_Zd:Cons := [(103,[],con_Zf)]
theorem hC_Zd:ConsOk Tryz.prog C_Zd := cC ok_Zf <| ConsOk.nil
abbrev q0_Zd (p0:gC) (y1:(Int×ByteArray)) := (p0.getD y1.1.toNat (zz0,zz0))
def w_Zd (p0:gC) (K:ByteArray→Prop):Prop := (∃ n0,(loopP (fun (y1:(Int×ByteArray)) k2 => ((((decide (y1.1 < (p0.length:Int)))=true) →((((decide (y1.1 > zz0))=true) →((((((ByteArray.size y1.2):Nat):Int) + (((ByteArray.size (⟨#[32]⟩ : ByteArray)):Nat):Int))≤9223372036854775807) ∧((zz0≤y1.1) ∧((y1.1 < (p0.length:Int)) ∧(((-9223372036854775808:Int)≤(q0_Zd p0 y1).1) ∧(((q0_Zd p0 y1).1≤9223372036854775807) ∧((((((ByteArray.size (v_scat y1.2 (⟨#[32]⟩ : ByteArray))):Nat):Int) + (((ByteArray.size (v_itoa (q0_Zd p0 y1).1)):Nat):Int))≤9223372036854775807) ∧((((((ByteArray.size (v_scat (v_scat y1.2 (⟨#[32]⟩ : ByteArray)) (v_itoa (q0_Zd p0 y1).1))):Nat):Int) + (((ByteArray.size (⟨#[120]⟩ : ByteArray)):Nat):Int))≤9223372036854775807) ∧((zz0≤y1.1) ∧((y1.1 < (p0.length:Int)) ∧(((-9223372036854775808:Int)≤(q0_Zd p0 y1).2) ∧(((q0_Zd p0 y1).2≤9223372036854775807) ∧((((((ByteArray.size (v_scat (v_scat (v_scat y1.2 (⟨#[32]⟩ : ByteArray)) (v_itoa (q0_Zd p0 y1).1)) (⟨#[120]⟩ : ByteArray))):Nat):Int) + (((ByteArray.size (v_itoa (q0_Zd p0 y1).2)):Nat):Int))≤9223372036854775807) ∧(k2 ((wi (y1.1 + zz1)),(v_scat (v_scat (v_scat (v_scat y1.2 (⟨#[32]⟩ : ByteArray)) (v_itoa (q0_Zd p0 y1).1)) (⟨#[120]⟩ : ByteArray)) (v_itoa (q0_Zd p0 y1).2))))))))))))))))) ∧(((decide (y1.1 > zz0))=false) →((zz0≤y1.1) ∧((y1.1 < (p0.length:Int)) ∧(((-9223372036854775808:Int)≤(q0_Zd p0 y1).1) ∧(((q0_Zd p0 y1).1≤9223372036854775807) ∧((((((ByteArray.size y1.2):Nat):Int) + (((ByteArray.size (v_itoa (q0_Zd p0 y1).1)):Nat):Int))≤9223372036854775807) ∧((((((ByteArray.size (v_scat y1.2 (v_itoa (q0_Zd p0 y1).1))):Nat):Int) + (((ByteArray.size (⟨#[120]⟩ : ByteArray)):Nat):Int))≤9223372036854775807) ∧((zz0≤y1.1) ∧((y1.1 < (p0.length:Int)) ∧(((-9223372036854775808:Int)≤(q0_Zd p0 y1).2) ∧(((q0_Zd p0 y1).2≤9223372036854775807) ∧((((((ByteArray.size (v_scat (v_scat y1.2 (v_itoa (q0_Zd p0 y1).1)) (⟨#[120]⟩ : ByteArray))):Nat):Int) + (((ByteArray.size (v_itoa (q0_Zd p0 y1).2)):Nat):Int))≤9223372036854775807) ∧(k2 ((wi (y1.1 + zz1)),(v_scat (v_scat (v_scat y1.2 (v_itoa (q0_Zd p0 y1).1)) (⟨#[120]⟩ : ByteArray)) (v_itoa (q0_Zd p0 y1).2)))))))))))))))))) ∧(((decide (y1.1 < (p0.length:Int)))=false) →(K y1.2)))) n0 (zz0,(⟨#[]⟩ : ByteArray))))
theorem w_Zd_eq (p0:gC) (K:ByteArray→Prop):tfn F_Zd A_Zd C_Zd P_Zd R_Zd p0 K = w_Zd p0 K := by kernel_rfl
def st_Zd_0 (p0:gC) (y0:(Int×ByteArray)):(Int×ByteArray) ⊕ ByteArray := (cond (decide (y0.1 < (p0.length:Int))) (cond (decide (y0.1 > 0)) (Sum.inl ((IntKind.i64.wrap (y0.1 + 1)),(v_scat (v_scat (v_scat (v_scat y0.2 (⟨#[32]⟩ : ByteArray)) (v_itoa (p0.getD y0.1.toNat (0,0)).1)) (⟨#[120]⟩ : ByteArray)) (v_itoa (p0.getD y0.1.toNat (0,0)).2)))) (Sum.inl ((IntKind.i64.wrap (y0.1 + 1)),(v_scat (v_scat (v_scat y0.2 (v_itoa (p0.getD y0.1.toNat (0,0)).1)) (⟨#[120]⟩ : ByteArray)) (v_itoa (p0.getD y0.1.toNat (0,0)).2))))) (Sum.inr y0.2))
abbrev sp_Zd_0 (p0:gC) (y0:(Int×ByteArray)):List Prop := [(((decide (y0.1 < (p0.length:Int)))=true)→(((decide (y0.1 > 0))=true)→(((((ByteArray.size y0.2):Nat):Int) + (((ByteArray.size (⟨#[32]⟩ : ByteArray)):Nat):Int))≤9223372036854775807))),(((decide (y0.1 < (p0.length:Int)))=true)→(((decide (y0.1 > 0))=true)→((0:Int)≤y0.1))),(((decide (y0.1 < (p0.length:Int)))=true)→(((decide (y0.1 > 0))=true)→(y0.1 < (p0.length:Int)))),(((decide (y0.1 < (p0.length:Int)))=true)→(((decide (y0.1 > 0))=true)→((-9223372036854775808:Int)≤(p0.getD y0.1.toNat (0,0)).1))),(((decide (y0.1 < (p0.length:Int)))=true)→(((decide (y0.1 > 0))=true)→((p0.getD y0.1.toNat (0,0)).1≤9223372036854775807))),(((decide (y0.1 < (p0.length:Int)))=true)→(((decide (y0.1 > 0))=true)→(((((ByteArray.size (v_scat y0.2 (⟨#[32]⟩ : ByteArray))):Nat):Int) + (((ByteArray.size (v_itoa (p0.getD y0.1.toNat (0,0)).1)):Nat):Int))≤9223372036854775807))),(((decide (y0.1 < (p0.length:Int)))=true)→(((decide (y0.1 > 0))=true)→(((((ByteArray.size (v_scat (v_scat y0.2 (⟨#[32]⟩ : ByteArray)) (v_itoa (p0.getD y0.1.toNat (0,0)).1))):Nat):Int) + (((ByteArray.size (⟨#[120]⟩ : ByteArray)):Nat):Int))≤9223372036854775807))),(((decide (y0.1 < (p0.length:Int)))=true)→(((decide (y0.1 > 0))=true)→((-9223372036854775808:Int)≤(p0.getD y0.1.toNat (0,0)).2))),(((decide (y0.1 < (p0.length:Int)))=true)→(((decide (y0.1 > 0))=true)→((p0.getD y0.1.toNat (0,0)).2≤9223372036854775807))),(((decide (y0.1 < (p0.length:Int)))=true)→(((decide (y0.1 > 0))=true)→(((((ByteArray.size (v_scat (v_scat (v_scat y0.2 (⟨#[32]⟩ : ByteArray)) (v_itoa (p0.getD y0.1.toNat (0,0)).1)) (⟨#[120]⟩ : ByteArray))):Nat):Int) + (((ByteArray.size (v_itoa (p0.getD y0.1.toNat (0,0)).2)):Nat):Int))≤9223372036854775807))),(((decide (y0.1 < (p0.length:Int)))=true)→(((decide (y0.1 > 0))=false)→((0:Int)≤y0.1))),(((decide (y0.1 < (p0.length:Int)))=true)→(((decide (y0.1 > 0))=false)→(y0.1 < (p0.length:Int)))),(((decide (y0.1 < (p0.length:Int)))=true)→(((decide (y0.1 > 0))=false)→((-9223372036854775808:Int)≤(p0.getD y0.1.toNat (0,0)).1))),(((decide (y0.1 < (p0.length:Int)))=true)→(((decide (y0.1 > 0))=false)→((p0.getD y0.1.toNat (0,0)).1≤9223372036854775807))),(((decide (y0.1 < (p0.length:Int)))=true)→(((decide (y0.1 > 0))=false)→(((((ByteArray.size y0.2):Nat):Int) + (((ByteArray.size (v_itoa (p0.getD y0.1.toNat (0,0)).1)):Nat):Int))≤9223372036854775807))),(((decide (y0.1 < (p0.length:Int)))=true)→(((decide (y0.1 > 0))=false)→(((((ByteArray.size (v_scat y0.2 (v_itoa (p0.getD y0.1.toNat (0,0)).1))):Nat):Int) + (((ByteArray.size (⟨#[120]⟩ : ByteArray)):Nat):Int))≤9223372036854775807))),(((decide (y0.1 < (p0.length:Int)))=true)→(((decide (y0.1 > 0))=false)→((-9223372036854775808:Int)≤(p0.getD y0.1.toNat (0,0)).2))),(((decide (y0.1 < (p0.length:Int)))=true)→(((decide (y0.1 > 0))=false)→((p0.getD y0.1.toNat (0,0)).2≤9223372036854775807))),(((decide (y0.1 < (p0.length:Int)))=true)→(((decide (y0.1 > 0))=false)→(((((ByteArray.size (v_scat (v_scat y0.2 (v_itoa (p0.getD y0.1.toNat (0,0)).1)) (⟨#[120]⟩ : ByteArray))):Nat):Int) + (((ByteArray.size (v_itoa (p0.getD y0.1.toNat (0,0)).2)):Nat):Int))≤9223372036854775807)))]
def s_Zd (p0:gC):ByteArray := (lpv (⟨#[]⟩ : ByteArray) (st_Zd_0 p0) ((0:Int),(⟨#[]⟩ : ByteArray)))
abbrev pre_Zd (p0:gC):List Prop := [(OkL (st_Zd_0 p0) (sp_Zd_0 p0) ((0:Int),(⟨#[]⟩ : ByteArray)))]
theorem d_Zd (p0:gC) (K:ByteArray→Prop) (hp:∀ p∈pre_Zd p0,p) (h:K (s_Zd p0)):w_Zd p0 K := by
 unfold w_Zd
 unfold s_Zd at h
 obtain ⟨hp0,_⟩ := conj_of hp
 exact (loop_gen (hp0) h (fun y0 k0 hp h => by
 unfold st_Zd_0 at h; obtain ⟨hp0,hp1,hp2,hp3,hp4,hp5,hp6,hp7,hp8,hp9,hp10,hp11,hp12,hp13,hp14,hp15,hp16,hp17,hp18,_⟩ := conj_of hp
 exact (br' h (fun e1 h => (br' h (fun e2 h => ⟨(hp0 e1 e2),(hp1 e1 e2),(hp2 e1 e2),(hp3 e1 e2),(hp4 e1 e2),(hp5 e1 e2),(hp6 e1 e2),(hp1 e1 e2),(hp2 e1 e2),(hp7 e1 e2),(hp8 e1 e2),(hp9 e1 e2),h⟩)
  (fun e2 h => ⟨(hp10 e1 e2),(hp11 e1 e2),(hp12 e1 e2),(hp13 e1 e2),(hp14 e1 e2),(hp15 e1 e2),(hp10 e1 e2),(hp11 e1 e2),(hp16 e1 e2),(hp17 e1 e2),(hp18 e1 e2),h⟩)))
  (fun e1 h => h))))
theorem l_Zd_0 (p0:gC) (hl:p0.length≤1000) (h:∀ x∈p0,v_in64 x.1∧v_in64 x.2):OkL (st_Zd_0 p0) (sp_Zd_0 p0) (0,⟨#[]⟩)∧lpv ⟨#[]⟩ (st_Zd_0 p0) (0,⟨#[]⟩)=v_fmt v_fwx p0 := by
 refine fmt_is (0,0) v_fwx hl (fun x hx => v_fwx_size (h x hx).1 (h x hx).2) (fun y => ?_) (fun j o hj ho hm => ?_)
 ·unfold st_Zd_0 v_fwx
  simp only [v_scat_assoc]
 ·have b1 := fun (hj:j < p0.length) => h _ (hm hj)
  unfold sp_Zd_0
  simp only [fM,decide_eq_true_eq,decide_eq_false_iff_not,v_scat_size,Int.toNat_natCast]
  have q1:∀ n:Int,v_in64 n→-9223372036854775808≤n := fun _ h => h.1
  have q2:∀ n:Int,v_in64 n→n≤9223372036854775807 := fun _ h => h.2
  have c1:(⟨#[32]⟩ : ByteArray).size = 1 := rfl
  have c2:(⟨#[120]⟩ : ByteArray).size = 1 := rfl
  have c3:(⟨#[58]⟩ : ByteArray).size = 1 := rfl
  have c4:(⟨#[44]⟩ : ByteArray).size = 1 := rfl
  rw [c1,c2]
  by_cases hjl:j < p0.length
  ·have b := b1 hjl
   generalize p0.getD j (0,0)=x at b ⊢
   obtain ⟨a1,a2⟩ := b
   have z1 := v_itoa_len' a1
   have z2 := v_itoa_len' a2
   
   and_intros
   all_goals first | (intros; omega) | (intros; exact q1 _ ‹_›) | (intros; exact q2 _ ‹_›) | (simp; done)
  ·and_intros
   all_goals first | (intros; omega) | (simp; done)
abbrev t_Zd (p0:gC):ByteArray := v_fmt v_fwx p0
abbrev qre_Zd (p0:gC):List Prop := [p0.length≤1000,v_fmok p0]
theorem pp_Zd (p0:gC) (hq:∀ p∈qre_Zd p0,p):∀ p∈pre_Zd p0,p := by
 obtain ⟨h1,h2,_⟩ := conj_of hq
 simp only [pre_Zd,fM]
 exact ⟨(l_Zd_0 p0 h1 h2).1,by simp⟩
theorem tt_Zd (p0:gC) (hq:∀ p∈qre_Zd p0,p):s_Zd p0 = t_Zd p0 := by
 obtain ⟨h1,h2,_⟩ := conj_of hq
 exact (l_Zd_0 p0 h1 h2).2

abbrev con_Zd:Con := ⟨P_Zd,R_Zd,fun x => qre_Zd x,fun x => t_Zd x⟩
theorem ok_Zd:ConOk Tryz.prog 32 con_Zd := okG k_Zd e_Zd hC_Zd fun x hx => tf_of (w_Zd_eq x _) (d_Zd x _ (pp_Zd x hx) (tt_Zd x hx))
end Go.Proofs.YtepdfhjmngbhhaaGreatDoor
