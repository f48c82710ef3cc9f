/- What the functions that GravityStrings reaches compute: contracts, each function once. No condition. -/
import Derived.Test.YtepdfhjmngbhhaaGreatDoorLayB
import Derived.Test.YtepdfhjmngbhhaaGreatDoorRpBGravityStrings
import Derived.Test.YtepdfhjmngbhhaaGreatDoorItAcGravityStrings
import Derived.Test.YtepdfhjmngbhhaaGreatDoorLayC
import Derived.KernelRfl
namespace Go.Proofs.YtepdfhjmngbhhaaGreatDoor
open Go Go.Mx
set_option maxRecDepth 100000
set_option maxHeartbeats 4000000
abbrev gF:=List Int
abbrev gG:=Int×Int
abbrev gA:=List (List Int×List Int)
abbrev gB:=List (Int×Int×Int)
abbrev gC:=List (Int×Int)
abbrev gE:=Int×List Int
abbrev gD:=(Int×List Int)×(Int×List Int)
abbrev tQA:=(Int×(List (Int×(Int×(Int×Int)))))
abbrev tQB:=(Int×(Int×(Int×Int)))
abbrev tQC:=(Int×Int×Int×Int)
theorem fM.{u} {α:Type u} {p:α→Prop} {a:α} {l:List α}:(∀ x∈a::l,p x) ↔ p a ∧ ∀ x∈l,p x := List.forall_mem_cons
theorem cC {P:Program} {f:FuncId} {ids:List FuncId} {c:Con} {C:Cons} (h:ConOk P f c) (hC:ConsOk P C) (hm:isMark ids=false := by rfl):ConsOk P ((f,ids,c)::C) := ConsOk.cons h hC hm
theorem okG {P:Program} {f:FuncId} {F:TFn} {A:Nat→Ty} {C:Cons} {ps rs:List PSh} {pre:(tyPs ps).den→List Prop} {s:(tyPs ps).den→(tyPs rs).den} (k:callable P f=true) (e:cFn P f=some F.erase) (hC:ConsOk P C) (h:∀ x,(∀ p∈pre x,p)→Tf F A C ps rs x (fun z => z=s x)):ConOk P f ⟨ps,rs,pre,s⟩ := ⟨k,fun x hx => ret_tf e hC (h x hx)⟩
abbrev wi (n:Int):Int := IntKind.i64.wrap n
abbrev zz0:Int := 0
abbrev zz1:Int := 1
abbrev zz2:Int := 2
abbrev zz3:Int := 3
theorem od {p:Prop} [Decidable p] (h:decide p = true):p := of_decide_eq_true h
theorem nof {p:Prop} (h:false = true):p := Bool.noConfusion h
theorem rf {p:Prop} {α:Sort _} {a:α} (_:p):a = a := rfl
def C_Z16:Cons := []
theorem hC_Z16:ConsOk Tryz.prog C_Z16 := ConsOk.nil
def w_Z16 (p0:gF) (K:Bool→Prop):Prop := (K (decide ((p0.length:Int)≤11)))
theorem w_Z16_eq (p0:gF) (K:Bool→Prop):tfn F_Z16 A_Z16 C_Z16 P_Z16 R_Z16 p0 K = w_Z16 p0 K := by kernel_rfl
def s_Z16 (p0:gF):Bool := (decide ((p0.length:Int)≤11))
abbrev pre_Z16 (_p0:gF):List Prop := []
theorem d_Z16 (p0:gF) (K:Bool→Prop) (_hp:∀ p∈pre_Z16 p0,p) (h:K (s_Z16 p0)):w_Z16 p0 K := by
 unfold w_Z16
 unfold s_Z16 at h
 exact h
abbrev con_Z16:Con := ⟨P_Z16,R_Z16,fun x => pre_Z16 x,fun x => s_Z16 x⟩
theorem ok_Z16:ConOk Tryz.prog 39 con_Z16 := okG k_Z16 e_Z16 hC_Z16 fun x hx => tf_of (w_Z16_eq x _) (d_Z16 x _ hx rfl)
def C_Z17:Cons := []
theorem hC_Z17:ConsOk Tryz.prog C_Z17 := ConsOk.nil
def w_Z17 (p0:tQA) (K:Bool→Prop):Prop := (K (decide ((p0.2.length:Int)≤14)))
theorem w_Z17_eq (p0:tQA) (K:Bool→Prop):tfn F_Z17 A_Z17 C_Z17 P_Z17 R_Z17 p0 K = w_Z17 p0 K := by kernel_rfl
def s_Z17 (p0:tQA):Bool := (decide ((p0.2.length:Int)≤14))
abbrev pre_Z17 (_p0:tQA):List Prop := []
theorem d_Z17 (p0:tQA) (K:Bool→Prop) (_hp:∀ p∈pre_Z17 p0,p) (h:K (s_Z17 p0)):w_Z17 p0 K := by
 unfold w_Z17
 unfold s_Z17 at h
 exact h
abbrev con_Z17:Con := ⟨P_Z17,R_Z17,fun x => pre_Z17 x,fun x => s_Z17 x⟩
theorem ok_Z17:ConOk Tryz.prog 40 con_Z17 := okG k_Z17 e_Z17 hC_Z17 fun x hx => tf_of (w_Z17_eq x _) (d_Z17 x _ hx rfl)
def C_Z12:Cons := []
theorem hC_Z12:ConsOk Tryz.prog C_Z12 := ConsOk.nil
def w_Z12 (p0:gF) (K:(List Int)→Prop):Prop := (((((List.length ([]:List Int)) + p0.length) * 8)≤140737488355328) ∧(K (([]:List Int) ++ p0)))
theorem w_Z12_eq (p0:gF) (K:(List Int)→Prop):tfnO F_Z12 A_Z12 C_Z12 P_Z12 E_Z12 p0 K = w_Z12 p0 K := by kernel_rfl
def s_Z12 (p0:gF):(List Int) := (([]:List Int) ++ p0)
abbrev pre_Z12 (p0:gF):List Prop := [((((List.length ([]:List Int)) + p0.length) * 8)≤140737488355328)]
theorem d_Z12 (p0:gF) (K:(List Int)→Prop) (hp:∀ p∈pre_Z12 p0,p) (h:K (s_Z12 p0)):w_Z12 p0 K := by
 unfold w_Z12
 unfold s_Z12 at h
 obtain ⟨hp0,_⟩ := conj_of hp
 exact ⟨(hp0),h⟩
abbrev t_Z12 (p0:gF):List Int := p0
abbrev qre_Z12 (p0:gF):List Prop := [p0.length≤1000000]
theorem pp_Z12 (p0:gF) (hq:∀ p∈qre_Z12 p0,p):∀ p∈pre_Z12 p0,p := by
 simp only [pre_Z12,fM]
 have := (conj_of hq).1
 exact ⟨by simp; omega,by simp⟩
theorem tt_Z12 (p0:gF) (_hq:∀ p∈qre_Z12 p0,p):s_Z12 p0 = t_Z12 p0 := by
 rfl

abbrev con_Z12:Con := ⟨P_Z12,[.one (.sl E_Z12)],fun x => qre_Z12 x,fun x => t_Z12 x⟩
theorem ok_Z12:ConOOk Tryz.prog 16 con_Z12 := conO_tf (e := E_Z12) (ps := P_Z12) k_Z12 e_Z12 hC_Z12 (fun x hx => tfo_of (w_Z12_eq x (fun z => z = t_Z12 x)) (d_Z12 x (fun z => z = t_Z12 x) (pp_Z12 x hx) (tt_Z12 x hx)))
def C_Z18:Cons := [(16,ownMark,con_Z12)]
theorem hC_Z18:ConsOk Tryz.prog C_Z18 := ConsOk.consO ok_Z12 <| ConsOk.nil
def w_Z18 (p0:gF) (K:(List Int)→Prop):Prop := ((p0.length≤1000000) ∧(K p0))
theorem w_Z18_eq (p0:gF) (K:(List Int)→Prop):tfn F_Z18 A_Z18 C_Z18 P_Z18 R_Z18 p0 K = w_Z18 p0 K := by kernel_rfl
def s_Z18 (p0:gF):(List Int) := p0
abbrev pre_Z18 (p0:gF):List Prop := [(p0.length≤1000000)]
theorem d_Z18 (p0:gF) (K:(List Int)→Prop) (hp:∀ p∈pre_Z18 p0,p) (h:K (s_Z18 p0)):w_Z18 p0 K := by
 unfold w_Z18
 unfold s_Z18 at h
 obtain ⟨hp0,_⟩ := conj_of hp
 exact ⟨(hp0),h⟩
abbrev con_Z18:Con := ⟨P_Z18,R_Z18,fun x => pre_Z18 x,fun x => s_Z18 x⟩
theorem ok_Z18:ConOk Tryz.prog 42 con_Z18 := okG k_Z18 e_Z18 hC_Z18 fun x hx => tf_of (w_Z18_eq x _) (d_Z18 x _ hx rfl)
abbrev con_Z1e:Con := ⟨P_Z1e,R_Z1e,fun x => [-9223372036854775808≤x,x≤9223372036854775807],fun x => v_itoa x⟩
theorem ok_Z1e:ConOk Tryz.prog 95 con_Z1e := ⟨k_Z1e,fun x hx => by
 obtain ⟨h1,h2,_⟩ := conj_of hx
 exact ret_itoa Tryz.laysM171 (g := 4) (by kernel_rfl) rfl x h1 h2⟩
abbrev con_Z1d:Con := ⟨P_Z1d,R_Z1d,fun x => [x.1.length≤140737488355328,(v_join x.1 x.2).size≤140737488355328],fun x => v_join x.1 x.2⟩
theorem ok_Z1d:ConOk Tryz.prog 79 con_Z1d := ⟨k_Z1d,fun x hx => by
 obtain ⟨h1,h2,_⟩ := conj_of hx
 exact ret_join Tryz.lays156 Tryz.Builder_Extra_156 x.1 x.2 false h1 h2⟩
def C_Zn:Cons := [(95,[],con_Z1e),(79,[],con_Z1d)]
theorem hC_Zn:ConsOk Tryz.prog C_Zn := cC ok_Z1e <| cC ok_Z1d <| ConsOk.nil
def w_Zn (p0:gF) (K:ByteArray→Prop):Prop := (∃ n0,(loopP (fun (y1:(Int×(List ByteArray))) k2 => ((((decide (y1.1 < (p0.length:Int)))=true) →((zz0≤y1.1) ∧((y1.1 < (p0.length:Int)) ∧(((-9223372036854775808:Int)≤(p0.getD y1.1.toNat zz0)) ∧(((p0.getD y1.1.toNat zz0)≤9223372036854775807) ∧((((y1.2.length + (List.length ((v_itoa (p0.getD y1.1.toNat zz0)) :: ([]:List ByteArray)))) * 16)≤140737488355328) ∧(k2 ((IntKind.i64.wrap (y1.1 + 1)),(y1.2 ++ ((v_itoa (p0.getD y1.1.toNat zz0)) :: ([]:List ByteArray))))))))))) ∧(((decide (y1.1 < (p0.length:Int)))=false) →((y1.2.length≤140737488355328) ∧(((ByteArray.size (v_join y1.2 (⟨#[32]⟩ : ByteArray)))≤140737488355328) ∧(K (v_join y1.2 (⟨#[32]⟩ : ByteArray)))))))) n0 (zz0,([]:List ByteArray))))
theorem w_Zn_eq (p0:gF) (K:ByteArray→Prop):tfn F_Zn A_Zn C_Zn P_Zn R_Zn p0 K = w_Zn p0 K := by kernel_rfl
def st_Zn_0 (p0:gF) (y0:(Int×(List ByteArray))):(Int×(List ByteArray)) ⊕ ByteArray := (cond (decide (y0.1 < (p0.length:Int))) (Sum.inl ((IntKind.i64.wrap (y0.1 + 1)),(y0.2 ++ ((v_itoa (p0.getD y0.1.toNat (0:Int))) :: ([]:List ByteArray))))) (Sum.inr (v_join y0.2 (⟨#[32]⟩ : ByteArray))))
abbrev sp_Zn_0 (p0:gF) (y0:(Int×(List ByteArray))):List Prop := [(((decide (y0.1 < (p0.length:Int)))=true)→((0:Int)≤y0.1)),(((decide (y0.1 < (p0.length:Int)))=true)→(y0.1 < (p0.length:Int))),(((decide (y0.1 < (p0.length:Int)))=true)→((-9223372036854775808:Int)≤(p0.getD y0.1.toNat (0:Int)))),(((decide (y0.1 < (p0.length:Int)))=true)→((p0.getD y0.1.toNat (0:Int))≤9223372036854775807)),(((decide (y0.1 < (p0.length:Int)))=true)→(((y0.2.length + (List.length ((v_itoa (p0.getD y0.1.toNat (0:Int))) :: ([]:List ByteArray)))) * 16)≤140737488355328)),(((decide (y0.1 < (p0.length:Int)))=false)→(y0.2.length≤140737488355328)),(((decide (y0.1 < (p0.length:Int)))=false)→((ByteArray.size (v_join y0.2 (⟨#[32]⟩ : ByteArray)))≤140737488355328))]
def s_Zn (p0:gF):ByteArray := (lpv (⟨#[]⟩ : ByteArray) (st_Zn_0 p0) ((0:Int),([]:List ByteArray)))
abbrev pre_Zn (p0:gF):List Prop := [(OkL (st_Zn_0 p0) (sp_Zn_0 p0) ((0:Int),([]:List ByteArray)))]
theorem d_Zn (p0:gF) (K:ByteArray→Prop) (hp:∀ p∈pre_Zn p0,p) (h:K (s_Zn p0)):w_Zn p0 K := by
 unfold w_Zn
 unfold s_Zn at h
 obtain ⟨hp0,_⟩ := conj_of hp
 exact (loop_gen (hp0) h (fun y0 k0 hp h => by
 unfold st_Zn_0 at h; obtain ⟨hp0,hp1,hp2,hp3,hp4,hp5,hp6,_⟩ := conj_of hp
 exact (br' h (fun e1 h => ⟨(hp0 e1),(hp1 e1),(hp2 e1),(hp3 e1),(hp4 e1),h⟩)
  (fun e1 h => ⟨(hp5 e1),(hp6 e1),h⟩))))
theorem l_Zn_0 (p0:gF) (hl:p0.length≤1000) (h:v_inok p0):OkL (st_Zn_0 p0) (sp_Zn_0 p0) (0,[])∧lpv ⟨#[]⟩ (st_Zn_0 p0) (0,[])=v_fmt v_itoa p0 := by
 refine join_is 0 v_itoa hl (fun x hx => Nat.le_trans (v_itoa_len' (h x hx)) (by decide)) (fun y => by unfold st_Zn_0; rfl) (fun j o hj ho hz hm => ?_)
 have b1 := fun (hj:j < p0.length) => h _ (hm hj)
 unfold sp_Zn_0
 have c1:(⟨#[32]⟩ : ByteArray).size = 1 := rfl
 simp only [fM,decide_eq_true_eq,decide_eq_false_iff_not,v_scat_size,Int.toNat_natCast,List.length_cons,List.length_nil,c1]
 by_cases hjl:j < p0.length
 ·have b := b1 hjl
  generalize p0.getD j 0 = x at b ⊢
  have z1 := v_itoa_len' b
  have q1 := b.1
  have q2 := b.2
  and_intros
  all_goals first | (intros; omega) | (simp; done)
 ·and_intros
  all_goals first | (intros; omega) | (simp; done)
abbrev t_Zn (p0:gF):ByteArray := v_fmt v_itoa p0
abbrev qre_Zn (p0:gF):List Prop := [p0.length≤1000,v_inok p0]
theorem pp_Zn (p0:gF) (hq:∀ p∈qre_Zn p0,p):∀ p∈pre_Zn p0,p := by
 obtain ⟨h1,h2,_⟩ := conj_of hq
 simp only [pre_Zn,fM]
 exact ⟨(l_Zn_0 p0 h1 h2).1,by simp⟩
theorem tt_Zn (p0:gF) (hq:∀ p∈qre_Zn p0,p):s_Zn p0 = t_Zn p0 := by
 obtain ⟨h1,h2,_⟩ := conj_of hq
 exact (l_Zn_0 p0 h1 h2).2

abbrev con_Zn:Con := ⟨P_Zn,R_Zn,fun x => qre_Zn x,fun x => t_Zn x⟩
theorem ok_Zn:ConOk Tryz.prog 78 con_Zn := okG k_Zn e_Zn hC_Zn fun x hx => tf_of (w_Zn_eq x _) (d_Zn x _ (pp_Zn x hx) (tt_Zn x hx))
def C_Z19:Cons := [(78,[],con_Zn)]
theorem hC_Z19:ConsOk Tryz.prog C_Z19 := cC ok_Zn <| ConsOk.nil
def w_Z19 (p0:gF) (K:ByteArray→Prop):Prop := ((p0.length≤1000) ∧((v_inok p0) ∧(K (v_fmt (v_itoa) p0))))
theorem w_Z19_eq (p0:gF) (K:ByteArray→Prop):tfn F_Z19 A_Z19 C_Z19 P_Z19 R_Z19 p0 K = w_Z19 p0 K := by kernel_rfl
def s_Z19 (p0:gF):ByteArray := (v_fmt (v_itoa) p0)
abbrev pre_Z19 (p0:gF):List Prop := [(p0.length≤1000),(v_inok p0)]
theorem d_Z19 (p0:gF) (K:ByteArray→Prop) (hp:∀ p∈pre_Z19 p0,p) (h:K (s_Z19 p0)):w_Z19 p0 K := by
 unfold w_Z19
 unfold s_Z19 at h
 obtain ⟨hp0,hp1,_⟩ := conj_of hp
 exact ⟨(hp0),(hp1),h⟩
abbrev con_Z19:Con := ⟨P_Z19,R_Z19,fun x => pre_Z19 x,fun x => s_Z19 x⟩
theorem ok_Z19:ConOk Tryz.prog 41 con_Z19 := okG k_Z19 e_Z19 hC_Z19 fun x hx => tf_of (w_Z19_eq x _) (d_Z19 x _ hx rfl)
def C_Z15:Cons := []
theorem hC_Z15:ConsOk Tryz.prog C_Z15 := ConsOk.nil
def w_Z15 (p0:tQA) (K:tQA→Prop):Prop := (((((List.length ([]:List tQB)) + p0.2.length) * 32)≤140737488355328) ∧(K (p0.1,(([]:List tQB) ++ p0.2))))
theorem w_Z15_eq (p0:tQA) (K:tQA→Prop):tfn F_Z15 A_Z15 C_Z15 P_Z15 R_Z15 p0 K = w_Z15 p0 K := by kernel_rfl
def s_Z15 (p0:tQA):tQA := (p0.1,(([]:List tQB) ++ p0.2))
abbrev pre_Z15 (p0:tQA):List Prop := [((((List.length ([]:List tQB)) + p0.2.length) * 32)≤140737488355328)]
theorem d_Z15 (p0:tQA) (K:tQA→Prop) (hp:∀ p∈pre_Z15 p0,p) (h:K (s_Z15 p0)):w_Z15 p0 K := by
 unfold w_Z15
 unfold s_Z15 at h
 obtain ⟨hp0,_⟩ := conj_of hp
 exact ⟨(hp0),h⟩
abbrev con_Z15:Con := ⟨P_Z15,R_Z15,fun x => pre_Z15 x,fun x => s_Z15 x⟩
theorem ok_Z15:ConOk Tryz.prog 12 con_Z15 := okG k_Z15 e_Z15 hC_Z15 fun x hx => tf_of (w_Z15_eq x _) (d_Z15 x _ hx rfl)
def C_Zf:Cons := [(78,[],con_Zn),(79,[],con_Z1d)]
theorem hC_Zf:ConsOk Tryz.prog C_Zf := cC ok_Zn <| cC ok_Z1d <| ConsOk.nil
abbrev q0_Zf (p0:tQA) (y1:(Int×(List ByteArray))) := ((p0.2.getD y1.1.toNat (zz0,(zz0,(zz0,zz0)))).1 :: ((p0.2.getD y1.1.toNat (zz0,(zz0,(zz0,zz0)))).2.1 :: ((p0.2.getD y1.1.toNat (zz0,(zz0,(zz0,zz0)))).2.2.1 :: ((p0.2.getD y1.1.toNat (zz0,(zz0,(zz0,zz0)))).2.2.2 :: ([]:List Int)))))
def w_Zf (p0:tQA) (K:ByteArray→Prop):Prop := (((List.length (p0.1 :: ([]:List Int)))≤1000) ∧((v_inok (p0.1 :: ([]:List Int))) ∧(∃ n0,(loopP (fun (y1:(Int×(List ByteArray))) k2 => ((((decide (y1.1 < (p0.2.length:Int)))=true) →((zz0≤y1.1) ∧((y1.1 < (p0.2.length:Int)) ∧(((List.length (q0_Zf p0 y1))≤1000) ∧((v_inok (q0_Zf p0 y1)) ∧((((y1.2.length + (List.length ((v_fmt (v_itoa) (q0_Zf p0 y1)) :: ([]:List ByteArray)))) * 16)≤140737488355328) ∧(k2 ((wi (y1.1 + zz1)),(y1.2 ++ ((v_fmt (v_itoa) (q0_Zf p0 y1)) :: ([]:List ByteArray))))))))))) ∧(((decide (y1.1 < (p0.2.length:Int)))=false) →((y1.2.length≤140737488355328) ∧(((ByteArray.size (v_join y1.2 (⟨#[59]⟩ : ByteArray)))≤140737488355328) ∧(K (v_join y1.2 (⟨#[59]⟩ : ByteArray)))))))) n0 (zz0,((v_fmt (v_itoa) (p0.1 :: ([]:List Int))) :: ([]:List ByteArray)))))))
theorem w_Zf_eq (p0:tQA) (K:ByteArray→Prop):tfn F_Zf A_Zf C_Zf P_Zf R_Zf p0 K = w_Zf p0 K := by kernel_rfl
def st_Zf_0 (p0:tQA) (y0:(Int×(List ByteArray))):(Int×(List ByteArray)) ⊕ ByteArray := (cond (decide (y0.1 < (p0.2.length:Int))) (Sum.inl ((IntKind.i64.wrap (y0.1 + 1)),(y0.2 ++ ((v_fmt (v_itoa) ((p0.2.getD y0.1.toNat ((0:Int),((0:Int),(0,0)))).1 :: ((p0.2.getD y0.1.toNat ((0:Int),((0:Int),(0,0)))).2.1 :: ((p0.2.getD y0.1.toNat ((0:Int),((0:Int),(0,0)))).2.2.1 :: ((p0.2.getD y0.1.toNat ((0:Int),((0:Int),(0,0)))).2.2.2 :: ([]:List Int)))))) :: ([]:List ByteArray))))) (Sum.inr (v_join y0.2 (⟨#[59]⟩ : ByteArray))))
abbrev sp_Zf_0 (p0:tQA) (y0:(Int×(List ByteArray))):List Prop := [(((decide (y0.1 < (p0.2.length:Int)))=true)→((0:Int)≤y0.1)),(((decide (y0.1 < (p0.2.length:Int)))=true)→(y0.1 < (p0.2.length:Int))),(((decide (y0.1 < (p0.2.length:Int)))=true)→((List.length ((p0.2.getD y0.1.toNat ((0:Int),((0:Int),(0,0)))).1 :: ((p0.2.getD y0.1.toNat ((0:Int),((0:Int),(0,0)))).2.1 :: ((p0.2.getD y0.1.toNat ((0:Int),((0:Int),(0,0)))).2.2.1 :: ((p0.2.getD y0.1.toNat ((0:Int),((0:Int),(0,0)))).2.2.2 :: ([]:List Int))))))≤1000)),(((decide (y0.1 < (p0.2.length:Int)))=true)→(v_inok ((p0.2.getD y0.1.toNat ((0:Int),((0:Int),(0,0)))).1 :: ((p0.2.getD y0.1.toNat ((0:Int),((0:Int),(0,0)))).2.1 :: ((p0.2.getD y0.1.toNat ((0:Int),((0:Int),(0,0)))).2.2.1 :: ((p0.2.getD y0.1.toNat ((0:Int),((0:Int),(0,0)))).2.2.2 :: ([]:List Int))))))),(((decide (y0.1 < (p0.2.length:Int)))=true)→(((y0.2.length + (List.length ((v_fmt (v_itoa) ((p0.2.getD y0.1.toNat ((0:Int),((0:Int),(0,0)))).1 :: ((p0.2.getD y0.1.toNat ((0:Int),((0:Int),(0,0)))).2.1 :: ((p0.2.getD y0.1.toNat ((0:Int),((0:Int),(0,0)))).2.2.1 :: ((p0.2.getD y0.1.toNat ((0:Int),((0:Int),(0,0)))).2.2.2 :: ([]:List Int)))))) :: ([]:List ByteArray)))) * 16)≤140737488355328)),(((decide (y0.1 < (p0.2.length:Int)))=false)→(y0.2.length≤140737488355328)),(((decide (y0.1 < (p0.2.length:Int)))=false)→((ByteArray.size (v_join y0.2 (⟨#[59]⟩ : ByteArray)))≤140737488355328))]
def s_Zf (p0:tQA):ByteArray := (lpv (⟨#[]⟩ : ByteArray) (st_Zf_0 p0) ((0:Int),((v_fmt (v_itoa) (p0.1 :: ([]:List Int))) :: ([]:List ByteArray))))
abbrev pre_Zf (p0:tQA):List Prop := [((List.length (p0.1 :: ([]:List Int)))≤1000),(v_inok (p0.1 :: ([]:List Int))),(OkL (st_Zf_0 p0) (sp_Zf_0 p0) ((0:Int),((v_fmt (v_itoa) (p0.1 :: ([]:List Int))) :: ([]:List ByteArray))))]
theorem d_Zf (p0:tQA) (K:ByteArray→Prop) (hp:∀ p∈pre_Zf p0,p) (h:K (s_Zf p0)):w_Zf p0 K := by
 unfold w_Zf
 unfold s_Zf at h
 obtain ⟨hp0,hp1,hp2,_⟩ := conj_of hp
 exact ⟨(hp0),(hp1),(loop_gen (hp2) h (fun y0 k0 hp h => by
 unfold st_Zf_0 at h; obtain ⟨hp0,hp1,hp2,hp3,hp4,hp5,hp6,_⟩ := conj_of hp
 exact (br' h (fun e1 h => ⟨(hp0 e1),(hp1 e1),(hp2 e1),(hp3 e1),(hp4 e1),h⟩)
  (fun e1 h => ⟨(hp5 e1),(hp6 e1),h⟩))))⟩
theorem l_Zf_0 (p0:Int×List tQC) (hl:p0.2.length≤1000) (h1:v_in64 p0.1) (h:v_tiok p0.2):OkL (st_Zf_0 p0) (sp_Zf_0 p0) (0,[v_fmt v_itoa [p0.1]])∧lpv ⟨#[]⟩ (st_Zf_0 p0) (0,[v_fmt v_itoa [p0.1]])=v_fnet p0 := by
 have hf:(v_fmt v_itoa [p0.1]).size≤100 := by rw [v_fmt_one]; exact Nat.le_trans (v_itoa_len' h1) (by decide)
 have hr := joinb_is (dd := ⟨#[]⟩) (st := st_Zf_0 p0) (sp := sp_Zf_0 p0) (0,0,0,0) v_tie 59 (v_fmt v_itoa [p0.1]) hl hf (fun x hx => v_tie_size (h x hx)) (fun y => by unfold st_Zf_0 v_tie; rfl) (fun j o hj ho hz hm => ?_)
 ·unfold v_fnet
  rw [v_fmt_one] at hr ⊢
  exact hr
 have b1 := fun (hj:j < p0.2.length) => h _ (hm hj)
 unfold sp_Zf_0
 have c1:(⟨#[59]⟩ : ByteArray).size = 1 := rfl
 simp only [fM,decide_eq_true_eq,decide_eq_false_iff_not,v_scat_size,Int.toNat_natCast,c1]
 by_cases hjl:j < p0.2.length
 ·have b := b1 hjl
  generalize p0.2.getD j (0,0,0,0)=x at b ⊢
  have z1 := v_tie_size b
  have hi:v_inok [x.1,x.2.1,x.2.2.1,x.2.2.2] := fun y hy => by
   simp only [List.mem_cons,List.not_mem_nil,or_false] at hy
   rcases hy with rfl | rfl | rfl | rfl
   ·exact b.1
   ·exact b.2.1
   ·exact b.2.2.1
   ·exact b.2.2.2
  unfold v_tie at z1
  and_intros
  all_goals first | (intros; exact hi) | (intros; simp only [List.length_cons,List.length_nil]; omega) | (intros; omega) | (simp; done)
 ·and_intros
  all_goals first | (intros; omega) | (simp; done)
abbrev t_Zf (p0:Int×List tQC):ByteArray := v_fnet p0
abbrev qre_Zf (p0:Int×List tQC):List Prop := [p0.2.length≤1000,v_in64 p0.1,v_tiok p0.2]
theorem pp_Zf (p0:Int×List tQC) (hq:∀ p∈qre_Zf p0,p):∀ p∈pre_Zf p0,p := by
 obtain ⟨h1,h2,h3,_⟩ := conj_of hq
 simp only [pre_Zf,fM]
 have hi:v_inok [p0.1] := fun x hx => by
  simp only [List.mem_singleton] at hx; subst hx; exact h2
 refine ⟨by simp,hi,(l_Zf_0 p0 h1 h2 h3).1,by simp⟩
theorem tt_Zf (p0:Int×List tQC) (hq:∀ p∈qre_Zf p0,p):s_Zf p0 = t_Zf p0 := by
 obtain ⟨h1,h2,h3,_⟩ := conj_of hq
 exact (l_Zf_0 p0 h1 h2 h3).2

abbrev con_Zf:Con := ⟨P_Zf,R_Zf,fun x => qre_Zf x,fun x => t_Zf x⟩
theorem ok_Zf:ConOk Tryz.prog 11 con_Zf := okG k_Zf e_Zf hC_Zf fun x hx => tf_of (w_Zf_eq x _) (d_Zf x _ (pp_Zf x hx) (tt_Zf x hx))
def C_Z0:Cons := []
theorem hC_Z0:ConsOk Tryz.prog C_Z0 := ConsOk.nil
abbrev q0_Z0 (p0:ByteArray) := ((((ByteArray.size p0):Nat):Int) == zz1)
abbrev q1_Z0 (p0:ByteArray) := ((((ByteArray.size p0):Nat):Int) == zz0)
abbrev q2_Z0 (p0:ByteArray) := ((((ByteArray.size p0):Nat):Int) - zz1)
abbrev q3_Z0 (p0:ByteArray) := ((((ByteArray.size p0):Nat):Int) - zz0)
def w_Z0 (p0:ByteArray) (p1:Int) (K:(Int×Bool)→Prop):Prop := ((((decide ((((ByteArray.size p0):Nat):Int) > zz0))=true) →((decide ((((ByteArray.size p0):Nat):Int) > zz0))=(decide ((((ByteArray.size p0):Nat):Int) > zz0)))) ∧((((decide ((((ByteArray.size p0):Nat):Int) > zz0))=true) →(zz0≤zz0)) ∧((((decide ((((ByteArray.size p0):Nat):Int) > zz0))=true) →(zz0 < (((ByteArray.size p0):Nat):Int))) ∧((((decide ((((ByteArray.size p0):Nat):Int) > zz0))=true) →((decide ((((ByteArray.size p0):Nat):Int) > zz0))=(decide ((((ByteArray.size p0):Nat):Int) > zz0)))) ∧(((decide ((((ByteArray.size p0):Nat):Int) > zz0))=(decide ((((ByteArray.size p0):Nat):Int) > zz0))) ∧((((cond (decide ((((ByteArray.size p0):Nat):Int) > zz0)) ((v_six p0 zz0) == 45) false)=true) →((((q0_Z0 p0)=false) →((q0_Z0 p0)=(q0_Z0 p0))) ∧((((q0_Z0 p0)=false) →((q0_Z0 p0)=(q0_Z0 p0))) ∧((((q0_Z0 p0)=false) →((q0_Z0 p0)=(q0_Z0 p0))) ∧((((q0_Z0 p0)=false) →((q0_Z0 p0)=(q0_Z0 p0))) ∧((((q0_Z0 p0)=false) →((q0_Z0 p0)=(q0_Z0 p0))) ∧(((q0_Z0 p0)=(q0_Z0 p0)) ∧((((cond (q0_Z0 p0) true (decide ((wi (q2_Z0 p0)) > p1)))=false) →((cond (q0_Z0 p0) true (decide ((wi (q2_Z0 p0)) > p1)))=(cond (q0_Z0 p0) true (decide ((wi (q2_Z0 p0)) > p1))))) ∧((((cond (q0_Z0 p0) true (decide ((wi (q2_Z0 p0)) > p1)))=false) →((cond (q0_Z0 p0) true (decide ((wi (q2_Z0 p0)) > p1)))=(cond (q0_Z0 p0) true (decide ((wi (q2_Z0 p0)) > p1))))) ∧((((cond (q0_Z0 p0) true (decide ((wi (q2_Z0 p0)) > p1)))=false) →(zz0≤zz1)) ∧((((cond (q0_Z0 p0) true (decide ((wi (q2_Z0 p0)) > p1)))=false) →(zz1 < (((ByteArray.size p0):Nat):Int))) ∧((((cond (q0_Z0 p0) true (decide ((wi (q2_Z0 p0)) > p1)))=false) →((cond (q0_Z0 p0) true (decide ((wi (q2_Z0 p0)) > p1)))=(cond (q0_Z0 p0) true (decide ((wi (q2_Z0 p0)) > p1))))) ∧((((cond (q0_Z0 p0) true (decide ((wi (q2_Z0 p0)) > p1)))=false) →((cond (q0_Z0 p0) true (decide ((wi (q2_Z0 p0)) > p1)))=(cond (q0_Z0 p0) true (decide ((wi (q2_Z0 p0)) > p1))))) ∧(((((!(cond (q0_Z0 p0) true (decide ((wi (q2_Z0 p0)) > p1)))) && ((v_six p0 zz1) == 48))=true) →(((!(cond (q0_Z0 p0) true (decide ((wi (q2_Z0 p0)) > p1)))) && ((v_six p0 zz1) == 48))=((!(cond (q0_Z0 p0) true (decide ((wi (q2_Z0 p0)) > p1)))) && ((v_six p0 zz1) == 48)))) ∧(((((!(cond (q0_Z0 p0) true (decide ((wi (q2_Z0 p0)) > p1)))) && ((v_six p0 zz1) == 48))=true) →(((!(cond (q0_Z0 p0) true (decide ((wi (q2_Z0 p0)) > p1)))) && ((v_six p0 zz1) == 48))=((!(cond (q0_Z0 p0) true (decide ((wi (q2_Z0 p0)) > p1)))) && ((v_six p0 zz1) == 48)))) ∧((((cond (q0_Z0 p0) true (decide ((wi (q2_Z0 p0)) > p1)))=false) →((cond (q0_Z0 p0) true (decide ((wi (q2_Z0 p0)) > p1)))=(cond (q0_Z0 p0) true (decide ((wi (q2_Z0 p0)) > p1))))) ∧((((cond (q0_Z0 p0) true (decide ((wi (q2_Z0 p0)) > p1)))=false) →(((!(cond (q0_Z0 p0) true (decide ((wi (q2_Z0 p0)) > p1)))) && ((v_six p0 zz1) == 48))=((v_six p0 zz1) == 48))) ∧(((cond (q0_Z0 p0) true (decide ((wi (q2_Z0 p0)) > p1)))=(cond (q0_Z0 p0) true (decide ((wi (q2_Z0 p0)) > p1)))) ∧((((cond (cond (q0_Z0 p0) true (decide ((wi (q2_Z0 p0)) > p1))) true (cond ((v_six p0 zz1) == 48) (decide ((((ByteArray.size p0):Nat):Int) > zz1)) false))=true) →(K (zz0,false))) ∧(((cond (cond (q0_Z0 p0) true (decide ((wi (q2_Z0 p0)) > p1))) true (cond ((v_six p0 zz1) == 48) (decide ((((ByteArray.size p0):Nat):Int) > zz1)) false))=false) →(∃ n0,(loopP (fun (y1:gG) k2 => ((((decide (y1.1 < (((ByteArray.size p0):Nat):Int)))=true) →((zz0≤y1.1) ∧((y1.1 < (((ByteArray.size p0):Nat):Int)) ∧((((decide ((v_six p0 y1.1) < 48))=false) →((decide ((v_six p0 y1.1) < 48))=(decide ((v_six p0 y1.1) < 48)))) ∧((((decide ((v_six p0 y1.1) < 48))=false) →((decide ((v_six p0 y1.1) < 48))=(decide ((v_six p0 y1.1) < 48)))) ∧((((decide ((v_six p0 y1.1) < 48))=false) →(zz0≤y1.1)) ∧((((decide ((v_six p0 y1.1) < 48))=false) →(y1.1 < (((ByteArray.size p0):Nat):Int))) ∧((((decide ((v_six p0 y1.1) < 48))=false) →((decide ((v_six p0 y1.1) < 48))=(decide ((v_six p0 y1.1) < 48)))) ∧(((decide ((v_six p0 y1.1) < 48))=(decide ((v_six p0 y1.1) < 48))) ∧((((cond (decide ((v_six p0 y1.1) < 48)) true (decide ((v_six p0 y1.1) > 57)))=true) →(K (zz0,false))) ∧(((cond (decide ((v_six p0 y1.1) < 48)) true (decide ((v_six p0 y1.1) > 57)))=false) →((zz0≤y1.1) ∧((y1.1 < (((ByteArray.size p0):Nat):Int)) ∧(k2 ((wi (y1.1 + zz1)),(wi ((wi ((10:Int) * y1.2)) + (wi (IntKind.wrap .u8 ((v_six p0 y1.1) - 48)))))))))))))))))))) ∧(((decide (y1.1 < (((ByteArray.size p0):Nat):Int)))=false) →((((zz1 == zz1)=true) →(K ((wi (zz0 - y1.2)),true))) ∧(((zz1 == zz1)=false) →(K (y1.2,true))))))) n0 (zz1,zz0))))))))))))))))))))))) ∧(((cond (decide ((((ByteArray.size p0):Nat):Int) > zz0)) ((v_six p0 zz0) == 45) false)=false) →((((q1_Z0 p0)=false) →((q1_Z0 p0)=(q1_Z0 p0))) ∧((((q1_Z0 p0)=false) →((q1_Z0 p0)=(q1_Z0 p0))) ∧((((q1_Z0 p0)=false) →((q1_Z0 p0)=(q1_Z0 p0))) ∧((((q1_Z0 p0)=false) →((q1_Z0 p0)=(q1_Z0 p0))) ∧((((q1_Z0 p0)=false) →((q1_Z0 p0)=(q1_Z0 p0))) ∧(((q1_Z0 p0)=(q1_Z0 p0)) ∧((((cond (q1_Z0 p0) true (decide ((wi (q3_Z0 p0)) > p1)))=false) →((cond (q1_Z0 p0) true (decide ((wi (q3_Z0 p0)) > p1)))=(cond (q1_Z0 p0) true (decide ((wi (q3_Z0 p0)) > p1))))) ∧((((cond (q1_Z0 p0) true (decide ((wi (q3_Z0 p0)) > p1)))=false) →((cond (q1_Z0 p0) true (decide ((wi (q3_Z0 p0)) > p1)))=(cond (q1_Z0 p0) true (decide ((wi (q3_Z0 p0)) > p1))))) ∧((((cond (q1_Z0 p0) true (decide ((wi (q3_Z0 p0)) > p1)))=false) →(zz0≤zz0)) ∧((((cond (q1_Z0 p0) true (decide ((wi (q3_Z0 p0)) > p1)))=false) →(zz0 < (((ByteArray.size p0):Nat):Int))) ∧((((cond (q1_Z0 p0) true (decide ((wi (q3_Z0 p0)) > p1)))=false) →((cond (q1_Z0 p0) true (decide ((wi (q3_Z0 p0)) > p1)))=(cond (q1_Z0 p0) true (decide ((wi (q3_Z0 p0)) > p1))))) ∧((((cond (q1_Z0 p0) true (decide ((wi (q3_Z0 p0)) > p1)))=false) →((cond (q1_Z0 p0) true (decide ((wi (q3_Z0 p0)) > p1)))=(cond (q1_Z0 p0) true (decide ((wi (q3_Z0 p0)) > p1))))) ∧(((((!(cond (q1_Z0 p0) true (decide ((wi (q3_Z0 p0)) > p1)))) && ((v_six p0 zz0) == 48))=true) →(((!(cond (q1_Z0 p0) true (decide ((wi (q3_Z0 p0)) > p1)))) && ((v_six p0 zz0) == 48))=((!(cond (q1_Z0 p0) true (decide ((wi (q3_Z0 p0)) > p1)))) && ((v_six p0 zz0) == 48)))) ∧(((((!(cond (q1_Z0 p0) true (decide ((wi (q3_Z0 p0)) > p1)))) && ((v_six p0 zz0) == 48))=true) →(((!(cond (q1_Z0 p0) true (decide ((wi (q3_Z0 p0)) > p1)))) && ((v_six p0 zz0) == 48))=((!(cond (q1_Z0 p0) true (decide ((wi (q3_Z0 p0)) > p1)))) && ((v_six p0 zz0) == 48)))) ∧((((cond (q1_Z0 p0) true (decide ((wi (q3_Z0 p0)) > p1)))=false) →((cond (q1_Z0 p0) true (decide ((wi (q3_Z0 p0)) > p1)))=(cond (q1_Z0 p0) true (decide ((wi (q3_Z0 p0)) > p1))))) ∧((((cond (q1_Z0 p0) true (decide ((wi (q3_Z0 p0)) > p1)))=false) →(((!(cond (q1_Z0 p0) true (decide ((wi (q3_Z0 p0)) > p1)))) && ((v_six p0 zz0) == 48))=((v_six p0 zz0) == 48))) ∧(((cond (q1_Z0 p0) true (decide ((wi (q3_Z0 p0)) > p1)))=(cond (q1_Z0 p0) true (decide ((wi (q3_Z0 p0)) > p1)))) ∧((((cond (cond (q1_Z0 p0) true (decide ((wi (q3_Z0 p0)) > p1))) true (cond ((v_six p0 zz0) == 48) (decide ((((ByteArray.size p0):Nat):Int) > zz1)) false))=true) →(K (zz0,false))) ∧(((cond (cond (q1_Z0 p0) true (decide ((wi (q3_Z0 p0)) > p1))) true (cond ((v_six p0 zz0) == 48) (decide ((((ByteArray.size p0):Nat):Int) > zz1)) false))=false) →(∃ n3,(loopP (fun (y4:gG) k5 => ((((decide (y4.1 < (((ByteArray.size p0):Nat):Int)))=true) →((zz0≤y4.1) ∧((y4.1 < (((ByteArray.size p0):Nat):Int)) ∧((((decide ((v_six p0 y4.1) < 48))=false) →((decide ((v_six p0 y4.1) < 48))=(decide ((v_six p0 y4.1) < 48)))) ∧((((decide ((v_six p0 y4.1) < 48))=false) →((decide ((v_six p0 y4.1) < 48))=(decide ((v_six p0 y4.1) < 48)))) ∧((((decide ((v_six p0 y4.1) < 48))=false) →(zz0≤y4.1)) ∧((((decide ((v_six p0 y4.1) < 48))=false) →(y4.1 < (((ByteArray.size p0):Nat):Int))) ∧((((decide ((v_six p0 y4.1) < 48))=false) →((decide ((v_six p0 y4.1) < 48))=(decide ((v_six p0 y4.1) < 48)))) ∧(((decide ((v_six p0 y4.1) < 48))=(decide ((v_six p0 y4.1) < 48))) ∧((((cond (decide ((v_six p0 y4.1) < 48)) true (decide ((v_six p0 y4.1) > 57)))=true) →(K (zz0,false))) ∧(((cond (decide ((v_six p0 y4.1) < 48)) true (decide ((v_six p0 y4.1) > 57)))=false) →((zz0≤y4.1) ∧((y4.1 < (((ByteArray.size p0):Nat):Int)) ∧(k5 ((wi (y4.1 + zz1)),(wi ((wi ((10:Int) * y4.2)) + (wi (IntKind.wrap .u8 ((v_six p0 y4.1) - 48)))))))))))))))))))) ∧(((decide (y4.1 < (((ByteArray.size p0):Nat):Int)))=false) →((((zz0 == zz1)=true) →(K ((wi (zz0 - y4.2)),true))) ∧(((zz0 == zz1)=false) →(K (y4.2,true))))))) n3 (zz0,zz0)))))))))))))))))))))))))))))
theorem w_Z0_eq (p0:ByteArray) (p1:Int) (K:(Int×Bool)→Prop):tfn F_Z0 A_Z0 C_Z0 P_Z0 R_Z0 (p0,p1) K = w_Z0 p0 p1 K := by kernel_rfl
def st_Z0_0 (p0:ByteArray) (_p1:Int) (y2:gG):(Int×Int) ⊕ (Int×Bool) := (cond (decide (y2.1 < (((ByteArray.size p0):Nat):Int))) (cond (cond (decide ((v_six p0 y2.1) < 48)) true (decide ((v_six p0 y2.1) > 57))) (Sum.inr ((0:Int),false)) (Sum.inl ((IntKind.i64.wrap (y2.1 + 1)),(IntKind.i64.wrap ((IntKind.i64.wrap ((10:Int) * y2.2)) + (IntKind.i64.wrap (IntKind.wrap .u8 ((v_six p0 y2.1) - 48)))))))) (Sum.inr ((IntKind.i64.wrap ((0:Int) - y2.2)),true)))
abbrev sp_Z0_0 (p0:ByteArray) (_p1:Int) (y2:gG):List Prop := [(((decide (y2.1 < (((ByteArray.size p0):Nat):Int)))=true)→((0:Int)≤y2.1)),(((decide (y2.1 < (((ByteArray.size p0):Nat):Int)))=true)→(y2.1 < (((ByteArray.size p0):Nat):Int))),(((decide (y2.1 < (((ByteArray.size p0):Nat):Int)))=true)→(((decide ((v_six p0 y2.1) < 48))=false)→((0:Int)≤y2.1))),(((decide (y2.1 < (((ByteArray.size p0):Nat):Int)))=true)→(((decide ((v_six p0 y2.1) < 48))=false)→(y2.1 < (((ByteArray.size p0):Nat):Int)))),(((decide (y2.1 < (((ByteArray.size p0):Nat):Int)))=true)→(((cond (decide ((v_six p0 y2.1) < 48)) true (decide ((v_six p0 y2.1) > 57)))=false)→((0:Int)≤y2.1))),(((decide (y2.1 < (((ByteArray.size p0):Nat):Int)))=true)→(((cond (decide ((v_six p0 y2.1) < 48)) true (decide ((v_six p0 y2.1) > 57)))=false)→(y2.1 < (((ByteArray.size p0):Nat):Int))))]
def st_Z0_1 (p0:ByteArray) (_p1:Int) (y6:gG):(Int×Int) ⊕ (Int×Bool) := (cond (decide (y6.1 < (((ByteArray.size p0):Nat):Int))) (cond (cond (decide ((v_six p0 y6.1) < 48)) true (decide ((v_six p0 y6.1) > 57))) (Sum.inr ((0:Int),false)) (Sum.inl ((IntKind.i64.wrap (y6.1 + 1)),(IntKind.i64.wrap ((IntKind.i64.wrap ((10:Int) * y6.2)) + (IntKind.i64.wrap (IntKind.wrap .u8 ((v_six p0 y6.1) - 48)))))))) (Sum.inr (y6.2,true)))
abbrev sp_Z0_1 (p0:ByteArray) (_p1:Int) (y6:gG):List Prop := [(((decide (y6.1 < (((ByteArray.size p0):Nat):Int)))=true)→((0:Int)≤y6.1)),(((decide (y6.1 < (((ByteArray.size p0):Nat):Int)))=true)→(y6.1 < (((ByteArray.size p0):Nat):Int))),(((decide (y6.1 < (((ByteArray.size p0):Nat):Int)))=true)→(((decide ((v_six p0 y6.1) < 48))=false)→((0:Int)≤y6.1))),(((decide (y6.1 < (((ByteArray.size p0):Nat):Int)))=true)→(((decide ((v_six p0 y6.1) < 48))=false)→(y6.1 < (((ByteArray.size p0):Nat):Int)))),(((decide (y6.1 < (((ByteArray.size p0):Nat):Int)))=true)→(((cond (decide ((v_six p0 y6.1) < 48)) true (decide ((v_six p0 y6.1) > 57)))=false)→((0:Int)≤y6.1))),(((decide (y6.1 < (((ByteArray.size p0):Nat):Int)))=true)→(((cond (decide ((v_six p0 y6.1) < 48)) true (decide ((v_six p0 y6.1) > 57)))=false)→(y6.1 < (((ByteArray.size p0):Nat):Int))))]
def s_Z0 (p0:ByteArray) (p1:Int):(Int×Bool) := (cond (cond (decide ((((ByteArray.size p0):Nat):Int) > 0)) ((v_six p0 (0:Int)) == 45) false) (cond (cond (cond ((((ByteArray.size p0):Nat):Int) == 1) true (decide ((IntKind.i64.wrap ((((ByteArray.size p0):Nat):Int) - 1)) > p1))) true (cond ((v_six p0 (1:Int)) == 48) (decide ((((ByteArray.size p0):Nat):Int) > 1)) false)) ((0:Int),false) (lpv ((0:Int),false) (st_Z0_0 p0 p1) ((1:Int),(0:Int)))) (cond (cond (cond ((((ByteArray.size p0):Nat):Int) == 0) true (decide ((IntKind.i64.wrap ((((ByteArray.size p0):Nat):Int) - 0)) > p1))) true (cond ((v_six p0 (0:Int)) == 48) (decide ((((ByteArray.size p0):Nat):Int) > 1)) false)) ((0:Int),false) (lpv ((0:Int),false) (st_Z0_1 p0 p1) (0,0))))
abbrev pre_Z0 (p0:ByteArray) (p1:Int):List Prop := [(((decide ((((ByteArray.size p0):Nat):Int) > 0))=true)→((0:Int) < (((ByteArray.size p0):Nat):Int))),(((cond (decide ((((ByteArray.size p0):Nat):Int) > 0)) ((v_six p0 (0:Int)) == 45) false)=true)→(((cond ((((ByteArray.size p0):Nat):Int) == 1) true (decide ((IntKind.i64.wrap ((((ByteArray.size p0):Nat):Int) - 1)) > p1)))=false)→((1:Int) < (((ByteArray.size p0):Nat):Int)))),(((cond (decide ((((ByteArray.size p0):Nat):Int) > 0)) ((v_six p0 (0:Int)) == 45) false)=true)→(((cond ((((ByteArray.size p0):Nat):Int) == 1) true (decide ((IntKind.i64.wrap ((((ByteArray.size p0):Nat):Int) - 1)) > p1)))=false)→(((!(cond ((((ByteArray.size p0):Nat):Int) == 1) true (decide ((IntKind.i64.wrap ((((ByteArray.size p0):Nat):Int) - 1)) > p1)))) && ((v_six p0 (1:Int)) == 48))=((v_six p0 (1:Int)) == 48)))),(((cond (decide ((((ByteArray.size p0):Nat):Int) > 0)) ((v_six p0 (0:Int)) == 45) false)=true)→(((cond (cond ((((ByteArray.size p0):Nat):Int) == 1) true (decide ((IntKind.i64.wrap ((((ByteArray.size p0):Nat):Int) - 1)) > p1))) true (cond ((v_six p0 (1:Int)) == 48) (decide ((((ByteArray.size p0):Nat):Int) > 1)) false))=false)→(OkL (st_Z0_0 p0 p1) (sp_Z0_0 p0 p1) ((1:Int),(0:Int))))),(((cond (decide ((((ByteArray.size p0):Nat):Int) > 0)) ((v_six p0 (0:Int)) == 45) false)=false)→(((cond ((((ByteArray.size p0):Nat):Int) == 0) true (decide ((IntKind.i64.wrap ((((ByteArray.size p0):Nat):Int) - 0)) > p1)))=false)→((0:Int) < (((ByteArray.size p0):Nat):Int)))),(((cond (decide ((((ByteArray.size p0):Nat):Int) > 0)) ((v_six p0 (0:Int)) == 45) false)=false)→(((cond ((((ByteArray.size p0):Nat):Int) == 0) true (decide ((IntKind.i64.wrap ((((ByteArray.size p0):Nat):Int) - 0)) > p1)))=false)→(((!(cond ((((ByteArray.size p0):Nat):Int) == 0) true (decide ((IntKind.i64.wrap ((((ByteArray.size p0):Nat):Int) - 0)) > p1)))) && ((v_six p0 (0:Int)) == 48))=((v_six p0 (0:Int)) == 48)))),(((cond (decide ((((ByteArray.size p0):Nat):Int) > 0)) ((v_six p0 (0:Int)) == 45) false)=false)→(((cond (cond ((((ByteArray.size p0):Nat):Int) == 0) true (decide ((IntKind.i64.wrap ((((ByteArray.size p0):Nat):Int) - 0)) > p1))) true (cond ((v_six p0 (0:Int)) == 48) (decide ((((ByteArray.size p0):Nat):Int) > 1)) false))=false)→(OkL (st_Z0_1 p0 p1) (sp_Z0_1 p0 p1) (0,0))))]
theorem d_Z0 (p0:ByteArray) (p1:Int) (K:(Int×Bool)→Prop) (hp:∀ p∈pre_Z0 p0 p1,p) (h:K (s_Z0 p0 p1)):w_Z0 p0 p1 K := by
 unfold w_Z0
 unfold s_Z0 at h
 obtain ⟨hp0,hp1,hp2,hp3,hp4,hp5,hp6,_⟩ := conj_of hp
 exact ⟨rf,(fun _ => (od rfl)),(hp0),rf,rfl,(br' h (fun e0 h => ⟨rf,rf,rf,rf,rf,rfl,rf,rf,(fun _ => (od rfl)),(hp1 e0),rf,rf,rf,rf,rf,(hp2 e0),rfl,(br' h (fun e1 h => h)
  (fun e1 h => (loop_gen (hp3 e0 e1) h (fun y2 k2 hp h => by
 unfold st_Z0_0 at h; obtain ⟨hp0,hp1,hp2,hp3,hp4,hp5,_⟩ := conj_of hp
 exact (br' h (fun e3 h => ⟨(hp0 e3),(hp1 e3),rf,rf,(hp2 e3),(hp3 e3),rf,rfl,(br' h (fun e4 h => h)
  (fun e4 h => ⟨(hp4 e3 e4),(hp5 e3 e4),h⟩))⟩)
  (fun e3 h => ⟨fun _ => h,fun e => Bool.noConfusion (show true = false from e)⟩))))))⟩)
  (fun e0 h => ⟨rf,rf,rf,rf,rf,rfl,rf,rf,(fun _ => (od rfl)),(hp4 e0),rf,rf,rf,rf,rf,(hp5 e0),rfl,(br' h (fun e5 h => h)
  (fun e5 h => (loop_gen (hp6 e0 e5) h (fun y6 k6 hp h => by
 unfold st_Z0_1 at h; obtain ⟨hp0,hp1,hp2,hp3,hp4,hp5,_⟩ := conj_of hp
 exact (br' h (fun e7 h => ⟨(hp0 e7),(hp1 e7),rf,rf,(hp2 e7),(hp3 e7),rf,rfl,(br' h (fun e8 h => h)
  (fun e8 h => ⟨(hp4 e7 e8),(hp5 e7 e8),h⟩))⟩)
  (fun e7 h => ⟨nof,fun _ => h⟩))))))⟩))⟩
theorem l_Z0_0 (p0:ByteArray) (p1:Int) (h0:1≤p0.size) (h1:p0.size - 1≤18):OkL (st_Z0_0 p0 p1) (sp_Z0_0 p0 p1) (1,0)∧lpv (0,false) (st_Z0_0 p0 p1) (1,0)=cond ((p0.data.toList.drop 1).all v_dgt) (IntKind.i64.wrap (0 - (v_dval (p0.data.toList.drop 1) 0:Nat)),true) (0,false) := by
 refine num_is (fun n => IntKind.i64.wrap (0 - n)) 1 h0 h1 (by omega) (fun y => by unfold st_Z0_0; rfl) (fun y hy => ?_)
 unfold sp_Z0_0
 simp only [fM,decide_eq_true_eq,decide_eq_false_iff_not]
 and_intros
 all_goals first | (intros; omega) | (simp; done)
theorem l_Z0_1 (p0:ByteArray) (p1:Int) (h1:p0.size≤18):OkL (st_Z0_1 p0 p1) (sp_Z0_1 p0 p1) (0,0)∧lpv (0,false) (st_Z0_1 p0 p1) (0,0)=cond (p0.data.toList.all v_dgt) (((v_dval p0.data.toList 0:Nat):Int),true) (0,false) := by
 refine num_is (fun n => n) 0 (Nat.zero_le _) h1 (by omega) (fun y => by unfold st_Z0_1; rfl) (fun y hy => ?_)
 unfold sp_Z0_1
 simp only [fM,decide_eq_true_eq,decide_eq_false_iff_not]
 and_intros
 all_goals first | (intros; omega) | (simp; done)
abbrev t_Z0 (p0:ByteArray) (p1:Int):Int×Bool := v_nbr p0 p1
abbrev qre_Z0 (p0:ByteArray) (p1:Int):List Prop := [0≤p1,p1≤18,p0.size≤1000000]
theorem x_Z0 (p0:ByteArray):(cond (decide ((p0.size:Int) > 0)) (v_six p0 0 == 45) false)=decide (p0.data.toList.head? = some 45) := by
 have hs := ba_len p0
 cases hl:p0.data.toList with
 | nil => rw [hl] at hs; rw [decide_eq_false (show ¬ (p0.size:Int) > 0 by simp at hs; omega)]; rfl
 | cons b r =>
  rw [hl] at hs
  have h0:0 < p0.size := by simp at hs; omega
  rw [decide_eq_true (show (p0.size:Int) > 0 by omega),cond_true]
  have := v_six_get h0
  rw [show ((0:Nat):Int)=0 from rfl] at this
  rw [this,hl]
  show ((b.toNat:Int) == 45)=decide (some b = some 45)
  rw [u8_of (by decide) (by decide)]
  exact decide_eq_decide.2 ⟨fun e => by rw [e]; rfl,fun e => by simpa using e⟩
theorem x1_Z0 (p0:ByteArray) (r:List UInt8) (hl:p0.data.toList = 45 :: r) (h2:¬ p0.size = 1):(cond (v_six p0 1 == 48) (decide ((p0.size:Int) > 1)) false)=decide (r.head? = some 48) := by
 have hs := ba_len p0
 cases r with
 | nil => rw [hl] at hs; exact absurd hs.symm h2
 | cons c r =>
  rw [hl] at hs
  have h1:1 < p0.size := by simp at hs; omega
  have := v_six_get h1
  rw [show ((1:Nat):Int)=1 from rfl] at this
  rw [this,hl,decide_eq_true (show (p0.size:Int) > 1 by omega)]
  show cond ((c.toNat:Int) == 48) true false = decide (some c = some 48)
  rw [u8_of (by decide) (by decide),show decide (c = UInt8.ofNat (48:Int).toNat)=decide (some c = some (48:UInt8)) from decide_eq_decide.2 ⟨fun e => by rw [e]; rfl,fun e => by simpa using e⟩]
  cases decide (some c = some (48:UInt8)) <;> rfl
theorem x0_Z0 (p0:ByteArray) (h2:¬ p0.size = 0):(v_six p0 0 == 48)=decide (p0.data.toList.head? = some 48) := by
 have hs := ba_len p0
 cases hl:p0.data.toList with
 | nil => rw [hl] at hs; exact absurd hs.symm h2
 | cons c r =>
  have h1:0 < p0.size := by omega
  have := v_six_get h1
  rw [show ((0:Nat):Int)=0 from rfl] at this
  rw [this,hl]
  show ((c.toNat:Int) == 48)=decide (some c = some 48)
  rw [u8_of (by decide) (by decide)]
  exact decide_eq_decide.2 ⟨fun e => by rw [e]; rfl,fun e => by simpa using e⟩
theorem y_Z0 {a b c:Bool} (h:cond (cond a true b) true c = false):a = false∧b = false∧c = false := by cases a <;> cases b <;> cases c <;> first | exact ⟨rfl,rfl,rfl⟩ | cases h
theorem z_Z0 {a b:Bool} (h:cond a true b = false):a = false∧b = false := by cases a <;> cases b <;> first | exact ⟨rfl,rfl⟩ | cases h
theorem pp_Z0 (p0:ByteArray) (p1:Int) (hq:∀ p∈qre_Z0 p0 p1,p):∀ p∈pre_Z0 p0 p1,p := by
 obtain ⟨h1,h2,h3,_⟩ := conj_of hq
 have e1:IntKind.i64.wrap ((p0.size:Int) - 1)=(p0.size:Int) - 1 := wrap_id (by omega) (by omega)
 have e0:IntKind.i64.wrap ((p0.size:Int) - 0)=(p0.size:Int) - 0 := wrap_id (by omega) (by omega)
 simp only [pre_Z0,fM,e1,e0]
 have hpos:(cond (decide ((p0.size:Int) > 0)) (v_six p0 0 == 45) false)=true→0 < p0.size := fun h => by
  by_cases e:(p0.size:Int) > 0
  ·omega
  ·rw [decide_eq_false e] at h; cases h
 refine ⟨fun h => by have := of_decide_eq_true h; omega,fun h g => ?_,fun h g => by rw [g]; rfl,fun h g => ?_,fun h g => ?_,fun h g => by rw [g]; rfl,fun h g => ?_,by simp⟩
 ·have := hpos h
  obtain ⟨g1,_⟩ := z_Z0 g
  have:(p0.size:Int) ≠ 1 := by simpa using g1
  omega
 ·have := hpos h
  obtain ⟨g1,g2,g3⟩ := y_Z0 g
  have := of_decide_eq_false g2
  exact (l_Z0_0 p0 p1 (by omega) (by omega)).1
 ·obtain ⟨g1,_⟩ := z_Z0 g
  have:(p0.size:Int) ≠ 0 := by simpa using g1
  omega
 ·obtain ⟨g1,g2,g3⟩ := y_Z0 g
  have := of_decide_eq_false g2
  exact (l_Z0_1 p0 p1 (by omega)).1
theorem tt_Z0 (p0:ByteArray) (p1:Int) (hq:∀ p∈qre_Z0 p0 p1,p):s_Z0 p0 p1 = t_Z0 p0 p1 := by
 obtain ⟨h1,h2,h3,_⟩ := conj_of hq
 have e1:IntKind.i64.wrap ((p0.size:Int) - 1)=(p0.size:Int) - 1 := wrap_id (by omega) (by omega)
 have e0:IntKind.i64.wrap ((p0.size:Int) - 0)=(p0.size:Int) - 0 := wrap_id (by omega) (by omega)
 have hs := ba_len p0
 unfold s_Z0 t_Z0
 rw [x_Z0,e1,e0]
 by_cases hd:p0.data.toList.head? = some 45
 ·rw [decide_eq_true hd,cond_true]
  obtain ⟨r,hl⟩ : ∃ r,p0.data.toList = 45 :: r := by
   cases hl:p0.data.toList with
   | nil => rw [hl] at hd; cases hd
   | cons b r => rw [hl] at hd; simp at hd; exact ⟨r,by rw [hd]⟩
  rw [v_nbr_neg hl]
  rw [hl] at hs
  have hsr:r.length + 1 = p0.size := hs
  by_cases h2' : p0.size = 1
  ·rw [show ((p0.size:Int) == 1)=true by simp [h2']]; rfl
  ·rw [show ((p0.size:Int) == 1)=false by simp; omega,x1_Z0 p0 r hl h2']
   by_cases hk:(p0.size:Int) - 1 > p1
   ·rw [decide_eq_true hk]; rfl
   ·rw [decide_eq_false hk]
    have hlp := (l_Z0_0 p0 p1 (by omega) (by omega)).2
    rw [hlp,hl,show List.drop 1 ((45:UInt8) :: r)=r from rfl]
    cases hall:r.all v_dgt with
    | false => rfl
    | true =>
     have hlt := v_dval_lt r 0 hall
     have := pow18 (k := r.length) (by omega)
     rw [wrap_id (n := 0 - (v_dval r 0:Int)) (by omega) (by omega),show (0:Int) - (v_dval r 0:Int) = -(v_dval r 0:Int) by omega]
 ·rw [decide_eq_false hd,cond_false,v_nbr_pos hd]
  by_cases h2' : p0.size = 0
  ·rw [show ((p0.size:Int) == 0)=true by simp [h2']]; rfl
  ·rw [show ((p0.size:Int) == 0)=false from beq_false_of_ne (by omega),x0_Z0 p0 h2']
   by_cases hk:(p0.size:Int) - 0 > p1
   ·rw [decide_eq_true hk]; rfl
   ·rw [decide_eq_false hk,(l_Z0_1 p0 p1 (by omega)).2]

abbrev con_Z0:Con := ⟨P_Z0,R_Z0,fun x => qre_Z0 x.1 x.2,fun x => t_Z0 x.1 x.2⟩
theorem ok_Z0:ConOk Tryz.prog 156 con_Z0 := okG k_Z0 e_Z0 hC_Z0 fun x hx => tf_of (w_Z0_eq x.1 x.2 _) (d_Z0 x.1 x.2 _ (pp_Z0 x.1 x.2 hx) (tt_Z0 x.1 x.2 hx))
def C_Z8:Cons := [(156,[],con_Z0)]
theorem hC_Z8:ConsOk Tryz.prog C_Z8 := cC ok_Z0 <| ConsOk.nil
abbrev q0_Z8 (p0:(List ByteArray)) (p1:Int) (y1:gE) := (v_nbr (p0.getD y1.1.toNat (⟨#[]⟩ : ByteArray)) p1)
abbrev q1_Z8 (p0:(List ByteArray)) (p1:Int) (y1:gE) := ((!(!(q0_Z8 p0 p1 y1).2)) && (decide ((q0_Z8 p0 p1 y1).1 < zz0)))
def w_Z8 (p0:(List ByteArray)) (p1:Int) (p2:Int) (K:((List Int)×Bool)→Prop):Prop := (∃ n0,(loopP (fun (y1:gE) k2 => ((((decide (y1.1 < (p0.length:Int)))=true) →((zz0≤y1.1) ∧((y1.1 < (p0.length:Int)) ∧((zz0≤p1) ∧((p1≤18) ∧(((ByteArray.size (p0.getD y1.1.toNat (⟨#[]⟩ : ByteArray)))≤1000000) ∧((((!(q0_Z8 p0 p1 y1).2)=false) →((!(q0_Z8 p0 p1 y1).2)=(!(q0_Z8 p0 p1 y1).2))) ∧((((!(q0_Z8 p0 p1 y1).2)=false) →((!(q0_Z8 p0 p1 y1).2)=(!(q0_Z8 p0 p1 y1).2))) ∧((((q1_Z8 p0 p1 y1)=true) →((q1_Z8 p0 p1 y1)=(q1_Z8 p0 p1 y1))) ∧((((q1_Z8 p0 p1 y1)=true) →((q1_Z8 p0 p1 y1)=(q1_Z8 p0 p1 y1))) ∧((((!(q0_Z8 p0 p1 y1).2)=false) →((!(q0_Z8 p0 p1 y1).2)=(!(q0_Z8 p0 p1 y1).2))) ∧((((!(q0_Z8 p0 p1 y1).2)=false) →((q1_Z8 p0 p1 y1)=(decide ((q0_Z8 p0 p1 y1).1 < zz0)))) ∧(((!(q0_Z8 p0 p1 y1).2)=(!(q0_Z8 p0 p1 y1).2)) ∧((((cond (!(q0_Z8 p0 p1 y1).2) true (cond (decide ((q0_Z8 p0 p1 y1).1 < zz0)) (decide (y1.1 < p2)) false))=true) →(K (([]:List Int),false))) ∧(((cond (!(q0_Z8 p0 p1 y1).2) true (cond (decide ((q0_Z8 p0 p1 y1).1 < zz0)) (decide (y1.1 < p2)) false))=false) →((((y1.2.length + (List.length ((q0_Z8 p0 p1 y1).1 :: ([]:List Int)))) * 8)≤140737488355328) ∧(k2 ((wi (y1.1 + zz1)),(y1.2 ++ ((q0_Z8 p0 p1 y1).1 :: ([]:List Int))))))))))))))))))))) ∧(((decide (y1.1 < (p0.length:Int)))=false) →(K (y1.2,true))))) n0 (zz0,([]:List Int))))
theorem w_Z8_eq (p0:(List ByteArray)) (p1:Int) (p2:Int) (K:((List Int)×Bool)→Prop):tfn F_Z8 A_Z8 C_Z8 P_Z8 R_Z8 (p0,p1,p2) K = w_Z8 p0 p1 p2 K := by kernel_rfl
def st_Z8_0 (p0:(List ByteArray)) (p1:Int) (p2:Int) (y0:gE):(Int×(List Int)) ⊕ ((List Int)×Bool) := (cond (decide (y0.1 < (p0.length:Int))) (cond (cond (!(v_nbr (p0.getD y0.1.toNat (⟨#[]⟩ : ByteArray)) p1).2) true (cond (decide ((v_nbr (p0.getD y0.1.toNat (⟨#[]⟩ : ByteArray)) p1).1 < 0)) (decide (y0.1 < p2)) false)) (Sum.inr (([]:List Int),false)) (Sum.inl ((IntKind.i64.wrap (y0.1 + 1)),(y0.2 ++ ((v_nbr (p0.getD y0.1.toNat (⟨#[]⟩ : ByteArray)) p1).1 :: ([]:List Int)))))) (Sum.inr (y0.2,true)))
abbrev sp_Z8_0 (p0:(List ByteArray)) (p1:Int) (p2:Int) (y0:gE):List Prop := [(((decide (y0.1 < (p0.length:Int)))=true)→((0:Int)≤y0.1)),(((decide (y0.1 < (p0.length:Int)))=true)→(y0.1 < (p0.length:Int))),(((decide (y0.1 < (p0.length:Int)))=true)→((0:Int)≤p1)),(((decide (y0.1 < (p0.length:Int)))=true)→(p1≤18)),(((decide (y0.1 < (p0.length:Int)))=true)→((ByteArray.size (p0.getD y0.1.toNat (⟨#[]⟩ : ByteArray)))≤1000000)),(((decide (y0.1 < (p0.length:Int)))=true)→(((!(v_nbr (p0.getD y0.1.toNat (⟨#[]⟩ : ByteArray)) p1).2)=false)→(((!(!(v_nbr (p0.getD y0.1.toNat (⟨#[]⟩ : ByteArray)) p1).2)) && (decide ((v_nbr (p0.getD y0.1.toNat (⟨#[]⟩ : ByteArray)) p1).1 < 0)))=(decide ((v_nbr (p0.getD y0.1.toNat (⟨#[]⟩ : ByteArray)) p1).1 < 0))))),(((decide (y0.1 < (p0.length:Int)))=true)→(((cond (!(v_nbr (p0.getD y0.1.toNat (⟨#[]⟩ : ByteArray)) p1).2) true (cond (decide ((v_nbr (p0.getD y0.1.toNat (⟨#[]⟩ : ByteArray)) p1).1 < 0)) (decide (y0.1 < p2)) false))=false)→(((y0.2.length + (List.length ((v_nbr (p0.getD y0.1.toNat (⟨#[]⟩ : ByteArray)) p1).1 :: ([]:List Int)))) * 8)≤140737488355328)))]
def s_Z8 (p0:(List ByteArray)) (p1:Int) (p2:Int):((List Int)×Bool) := (lpv ([],false) (st_Z8_0 p0 p1 p2) ((0:Int),([]:List Int)))
abbrev pre_Z8 (p0:(List ByteArray)) (p1:Int) (p2:Int):List Prop := [(OkL (st_Z8_0 p0 p1 p2) (sp_Z8_0 p0 p1 p2) ((0:Int),([]:List Int)))]
theorem d_Z8 (p0:(List ByteArray)) (p1:Int) (p2:Int) (K:((List Int)×Bool)→Prop) (hp:∀ p∈pre_Z8 p0 p1 p2,p) (h:K (s_Z8 p0 p1 p2)):w_Z8 p0 p1 p2 K := by
 unfold w_Z8
 unfold s_Z8 at h
 obtain ⟨hp0,_⟩ := conj_of hp
 exact (loop_gen (hp0) h (fun y0 k0 hp h => by
 unfold st_Z8_0 at h; obtain ⟨hp0,hp1,hp2,hp3,hp4,hp5,hp6,_⟩ := conj_of hp
 exact (br' h (fun e1 h => ⟨(hp0 e1),(hp1 e1),(hp2 e1),(hp3 e1),(hp4 e1),rf,rf,rf,rf,rf,(hp5 e1),rfl,(br' h (fun e2 h => h)
  (fun e2 h => ⟨(hp6 e1 e2),h⟩))⟩)
  (fun e1 h => h))))
def v_szok (l:List ByteArray):Prop := ∀ z∈l,z.size≤1000000
theorem l_Z8_0 (p0:List ByteArray) (p1 p2:Int) (hl:p0.length≤1100000) (hz:v_szok p0) (h0:0≤p1) (h1:p1≤18):OkL (st_Z8_0 p0 p1 p2) (sp_Z8_0 p0 p1 p2) (0,[])∧lpv ([],false) (st_Z8_0 p0 p1 p2) (0,[])=v_gnp p1 p2 p0 := by
 refine gn_lp (fun y => ?_) (fun j o hj ho hz => ?_) hl hz
 ·unfold st_Z8_0
  obtain ⟨w,hw⟩ : ∃ w,p0.getD y.1.toNat (⟨#[]⟩ : ByteArray)=w := ⟨_,rfl⟩
  simp only [hw]
  cases h:v_nbk p1 w with
  | none => rw [v_nbk_none h]; rfl
  | some n => rw [v_nbk_some h]; rfl
 ·unfold sp_Z8_0
  simp only [fM,Int.toNat_natCast,List.length_cons,List.length_nil]
  refine ⟨fun _ => by omega,fun h => of_decide_eq_true h,fun _ => h0,fun _ => h1,fun _ => hz,fun _ h => by rw [h]; rfl,fun _ _ => by omega,by simp⟩
abbrev t_Z8 (p0:List ByteArray) (p1 p2:Int):List Int×Bool := v_gnp p1 p2 p0
abbrev qre_Z8 (p0:List ByteArray) (p1 _p2:Int):List Prop := [p0.length≤1100000,v_szok p0,0≤p1,p1≤18]
theorem pp_Z8 (p0:List ByteArray) (p1 p2:Int) (hq:∀ p∈qre_Z8 p0 p1 p2,p):∀ p∈pre_Z8 p0 p1 p2,p := by
 obtain ⟨h1,h2,h3,h4,_⟩ := conj_of hq
 simp only [pre_Z8,fM]
 exact ⟨(l_Z8_0 p0 p1 p2 h1 h2 h3 h4).1,by simp⟩
theorem tt_Z8 (p0:List ByteArray) (p1 p2:Int) (hq:∀ p∈qre_Z8 p0 p1 p2,p):s_Z8 p0 p1 p2 = t_Z8 p0 p1 p2 := by
 obtain ⟨h1,h2,h3,h4,_⟩ := conj_of hq
 exact (l_Z8_0 p0 p1 p2 h1 h2 h3 h4).2

abbrev con_Z8:Con := ⟨P_Z8,R_Z8,fun x => qre_Z8 x.1 x.2.1 x.2.2,fun x => t_Z8 x.1 x.2.1 x.2.2⟩
theorem ok_Z8:ConOk Tryz.prog 111 con_Z8 := okG k_Z8 e_Z8 hC_Z8 fun x hx => tf_of (w_Z8_eq x.1 x.2.1 x.2.2 _) (d_Z8 x.1 x.2.1 x.2.2 _ (pp_Z8 x.1 x.2.1 x.2.2 hx) (tt_Z8 x.1 x.2.1 x.2.2 hx))
abbrev con_Z1i:Con := ⟨P_Z1i,R_Z1i,fun x => [x.1.size≤4611686018427387904,x.2.size = 1],fun x => v_pcs x.1 x.2⟩
theorem ok_Z1i:ConIOk Tryz.prog 96 con_Z1i := by
 intro x hx
 obtain ⟨h1,h2,_⟩ := conj_of hx
 obtain ⟨s,⟨⟨l⟩⟩⟩ := x
 obtain ⟨b,rfl⟩ := List.length_eq_one_iff.1 (show l.length = 1 from h2)
 exact iterC_splitSeq s b h1
def v_atn' (s:ByteArray):Int := v_atn s.data.toList
def v_ate' (s:ByteArray):Bool := v_ate s.data.toList
abbrev con_Z1g:Con := ⟨P_Z1g,R_Z1g,fun x => [x.size≤281474976710656],fun x => (v_atn' x,v_ate' x)⟩
theorem ok_Z1g:ConOk Tryz.prog 141 con_Z1g := ⟨k_Z1g,fun x hx => by
 obtain ⟨h1,_⟩ := conj_of hx
 exact ret_atoi Tryz.laysC172 (g1 := 2) (g2 := 3) (by kernel_rfl) rfl (by kernel_rfl) rfl x h1⟩
abbrev con_Z1h:Con := ⟨P_Z1h,R_Z1h,fun _ => [],fun x => v_trimp x.1 x.2⟩
theorem ok_Z1h:ConOk Tryz.prog 142 con_Z1h := ⟨k_Z1h,fun x _ => ret_trimPrefix Tryz.lays101 x.1 x.2⟩
def C_Z5:Cons := [(96,itMark,con_Z1i),(141,[],con_Z1g),(95,[],con_Z1e),(142,[],con_Z1h)]
theorem hC_Z5:ConsOk Tryz.prog C_Z5 := ConsOk.consI ok_Z1i <| cC ok_Z1g <| cC ok_Z1e <| cC ok_Z1h <| ConsOk.nil
abbrev q0_Z5 (p1:Int) (z1:ByteArray) := (cond (cond (!(v_ate' z1)) true (!(v_seq (v_itoa (v_atn' z1)) z1))) true (decide ((((ByteArray.size (v_trimp z1 (⟨#[45]⟩ : ByteArray))):Nat):Int) > p1)))
abbrev q1_Z5 (z1:ByteArray) := ((cond (!(v_ate' z1)) true (!(v_seq (v_itoa (v_atn' z1)) z1)))=(cond (!(v_ate' z1)) true (!(v_seq (v_itoa (v_atn' z1)) z1))))
abbrev q2_Z5 (p1:Int) (z1:ByteArray) := ((!(q0_Z5 p1 z1)) && (decide ((v_atn' z1) < zz0)))
def w_Z5 (p0:ByteArray) (p1:Int) (p2:Int) (K:((List Int)×Bool)→Prop):Prop := (((ByteArray.size p0)≤4611686018427387904) ∧(((ByteArray.size (⟨#[32]⟩ : ByteArray))=1) ∧(RngP (fun (y0:gF) (z1:ByteArray) k2 => (((ByteArray.size z1)≤281474976710656) ∧((((!(v_ate' z1))=false) →((!(v_ate' z1))=(!(v_ate' z1)))) ∧((((!(v_ate' z1))=false) →((-9223372036854775808:Int)≤(v_atn' z1))) ∧((((!(v_ate' z1))=false) →((v_atn' z1)≤9223372036854775807)) ∧((((!(v_ate' z1))=false) →((!(v_ate' z1))=(!(v_ate' z1)))) ∧((((!(v_ate' z1))=false) →((!(v_ate' z1))=(!(v_ate' z1)))) ∧(((!(v_ate' z1))=(!(v_ate' z1))) ∧((((cond (!(v_ate' z1)) true (!(v_seq (v_itoa (v_atn' z1)) z1)))=false) →(q1_Z5 z1)) ∧((((cond (!(v_ate' z1)) true (!(v_seq (v_itoa (v_atn' z1)) z1)))=false) →(q1_Z5 z1)) ∧((((cond (!(v_ate' z1)) true (!(v_seq (v_itoa (v_atn' z1)) z1)))=false) →(q1_Z5 z1)) ∧((((cond (!(v_ate' z1)) true (!(v_seq (v_itoa (v_atn' z1)) z1)))=false) →(q1_Z5 z1)) ∧((q1_Z5 z1) ∧((((q0_Z5 p1 z1)=false) →((q0_Z5 p1 z1)=(q0_Z5 p1 z1))) ∧((((q0_Z5 p1 z1)=false) →((q0_Z5 p1 z1)=(q0_Z5 p1 z1))) ∧((((q2_Z5 p1 z1)=true) →((q2_Z5 p1 z1)=(q2_Z5 p1 z1))) ∧((((q2_Z5 p1 z1)=true) →((q2_Z5 p1 z1)=(q2_Z5 p1 z1))) ∧((((q2_Z5 p1 z1)=true) →((q2_Z5 p1 z1)=(q2_Z5 p1 z1))) ∧((((q0_Z5 p1 z1)=false) →((q0_Z5 p1 z1)=(q0_Z5 p1 z1))) ∧((((q0_Z5 p1 z1)=false) →((q2_Z5 p1 z1)=(decide ((v_atn' z1) < zz0)))) ∧(((q0_Z5 p1 z1)=(q0_Z5 p1 z1)) ∧((((cond (q0_Z5 p1 z1) true (cond (decide ((v_atn' z1) < zz0)) (decide ((y0.length:Int) < p2)) false))=true) →(K (([]:List Int),false))) ∧(((cond (q0_Z5 p1 z1) true (cond (decide ((v_atn' z1) < zz0)) (decide ((y0.length:Int) < p2)) false))=false) →((((y0.length + (List.length ((v_atn' z1) :: ([]:List Int)))) * 8)≤140737488355328) ∧(k2 (y0 ++ ((v_atn' z1) :: ([]:List Int)))))))))))))))))))))))))))) (fun (s3:gF) => (K (s3,true))) (v_pcs p0 (⟨#[32]⟩ : ByteArray)) ([]:List Int))))
theorem w_Z5_eq (p0:ByteArray) (p1:Int) (p2:Int) (K:((List Int)×Bool)→Prop):tfn F_Z5 A_Z5 C_Z5 P_Z5 R_Z5 (p0,p1,p2) K = w_Z5 p0 p1 p2 K := by kernel_rfl
def st_Z5_0 (_p0:ByteArray) (p1:Int) (p2:Int) (y0:gF) (z0:ByteArray):(List Int) ⊕ ((List Int)×Bool) := (cond (cond (cond (cond (!(v_ate' z0)) true (!(v_seq (v_itoa (v_atn' z0)) z0))) true (decide ((((ByteArray.size (v_trimp z0 (⟨#[45]⟩ : ByteArray))):Nat):Int) > p1))) true (cond (decide ((v_atn' z0) < 0)) (decide ((y0.length:Int) < p2)) false)) (Sum.inr (([]:List Int),false)) (Sum.inl (y0 ++ ((v_atn' z0) :: ([]:List Int)))))
abbrev sp_Z5_0 (_p0:ByteArray) (p1:Int) (p2:Int) (y0:gF) (z0:ByteArray):List Prop := [((ByteArray.size z0)≤281474976710656),(((!(v_ate' z0))=false)→((-9223372036854775808:Int)≤(v_atn' z0))),(((!(v_ate' z0))=false)→((v_atn' z0)≤9223372036854775807)),(((cond (cond (!(v_ate' z0)) true (!(v_seq (v_itoa (v_atn' z0)) z0))) true (decide ((((ByteArray.size (v_trimp z0 (⟨#[45]⟩ : ByteArray))):Nat):Int) > p1)))=false)→(((!(cond (cond (!(v_ate' z0)) true (!(v_seq (v_itoa (v_atn' z0)) z0))) true (decide ((((ByteArray.size (v_trimp z0 (⟨#[45]⟩ : ByteArray))):Nat):Int) > p1)))) && (decide ((v_atn' z0) < 0)))=(decide ((v_atn' z0) < 0)))),(((cond (cond (cond (!(v_ate' z0)) true (!(v_seq (v_itoa (v_atn' z0)) z0))) true (decide ((((ByteArray.size (v_trimp z0 (⟨#[45]⟩ : ByteArray))):Nat):Int) > p1))) true (cond (decide ((v_atn' z0) < 0)) (decide ((y0.length:Int) < p2)) false))=false)→(((y0.length + (List.length ((v_atn' z0) :: ([]:List Int)))) * 8)≤140737488355328))]
def sf_Z5_0 (_p0:ByteArray) (_p1:Int) (_p2:Int) (s0:gF):((List Int)×Bool) := (s0,true)
abbrev sq_Z5_0 (_p0:ByteArray) (_p1:Int) (_p2:Int) (_s0:gF):List Prop := []
def s_Z5 (p0:ByteArray) (p1:Int) (p2:Int):((List Int)×Bool) := (rngV (st_Z5_0 p0 p1 p2) (sf_Z5_0 p0 p1 p2) (v_pcs p0 (⟨#[32]⟩ : ByteArray)) ([]:List Int))
abbrev pre_Z5 (p0:ByteArray) (p1:Int) (p2:Int):List Prop := [((ByteArray.size p0)≤4611686018427387904),((ByteArray.size (⟨#[32]⟩ : ByteArray))=1),(OkR (st_Z5_0 p0 p1 p2) (sp_Z5_0 p0 p1 p2) (sq_Z5_0 p0 p1 p2) (v_pcs p0 (⟨#[32]⟩ : ByteArray)) ([]:List Int))]
theorem d_Z5 (p0:ByteArray) (p1:Int) (p2:Int) (K:((List Int)×Bool)→Prop) (hp:∀ p∈pre_Z5 p0 p1 p2,p) (h:K (s_Z5 p0 p1 p2)):w_Z5 p0 p1 p2 K := by
 unfold w_Z5
 unfold s_Z5 at h
 obtain ⟨hp0,hp1,hp2,_⟩ := conj_of hp
 exact ⟨(hp0),(hp1),(rng_gen (hp2) h (fun y0 z0 k0 hp h => by
 unfold st_Z5_0 at h; obtain ⟨hp0,hp1,hp2,hp3,hp4,_⟩ := conj_of hp
 exact ⟨(hp0),rf,(hp1),(hp2),rf,rf,rfl,rf,rf,rf,rf,rfl,rf,rf,rf,rf,rf,rf,(hp3),rfl,(br' h (fun e1 h => h)
  (fun e1 h => ⟨(hp4 e1),h⟩))⟩) (fun s0 hp h => by
 unfold sf_Z5_0 at h
 exact h))⟩
theorem l_Z5_0 (p0:ByteArray) (p1 p2:Int) (hs:p0.size≤1000000) (h1:p1≤16):OkR (st_Z5_0 p0 p1 p2) (sp_Z5_0 p0 p1 p2) (sq_Z5_0 p0 p1 p2) (v_pcs p0 (⟨#[32]⟩ : ByteArray)) []∧rngV (st_Z5_0 p0 p1 p2) (sf_Z5_0 p0 p1 p2) (v_pcs p0 (⟨#[32]⟩ : ByteArray)) []=v_gnp p1 p2 (v_ct p0 32) := by
 have hp:v_pcs p0 (⟨#[32]⟩ : ByteArray)=v_ct p0 32 := v_pcs_ct p0 32
 rw [hp]
 refine gn_rng (fun y z => ?_) (fun y => rfl) (fun y z hy hz => ?_) (fun y => by unfold sq_Z5_0; simp) _ (by have := v_ct_len p0 32; omega) (fun z hz => Nat.le_trans (v_ct_mem hz) hs)
 ·unfold st_Z5_0 v_ate' v_atn'
  obtain ⟨g1,g2⟩ := v_nbk_prog h1 z
  rw [g1]
  cases h:v_nbk p1 z with
  | none => rfl
  | some n => rw [g2 n h]; rfl
 ·unfold sp_Z5_0
  simp only [fM,List.length_cons,List.length_nil]
  refine ⟨by omega,fun h => ?_,fun h => ?_,fun h => by rw [h]; rfl,fun _ => by omega,by simp⟩
  ·exact (v_at_rng (by simpa [v_ate'] using h)).1
  ·exact (v_at_rng (by simpa [v_ate'] using h)).2
abbrev t_Z5 (p0:ByteArray) (p1 p2:Int):List Int×Bool := v_gnp p1 p2 (v_ct p0 32)
abbrev qre_Z5 (p0:ByteArray) (p1 _p2:Int):List Prop := [p0.size≤1000000,p1≤16]
theorem pp_Z5 (p0:ByteArray) (p1 p2:Int) (hq:∀ p∈qre_Z5 p0 p1 p2,p):∀ p∈pre_Z5 p0 p1 p2,p := by
 obtain ⟨h1,h2,_⟩ := conj_of hq
 simp only [pre_Z5,fM]
 exact ⟨by omega,rfl,(l_Z5_0 p0 p1 p2 h1 h2).1,by simp⟩
theorem tt_Z5 (p0:ByteArray) (p1 p2:Int) (hq:∀ p∈qre_Z5 p0 p1 p2,p):s_Z5 p0 p1 p2 = t_Z5 p0 p1 p2 := by
 obtain ⟨h1,h2,_⟩ := conj_of hq
 exact (l_Z5_0 p0 p1 p2 h1 h2).2

abbrev con_Z5:Con := ⟨P_Z5,R_Z5,fun x => qre_Z5 x.1 x.2.1 x.2.2,fun x => t_Z5 x.1 x.2.1 x.2.2⟩
theorem ok_Z5:ConOk Tryz.prog 76 con_Z5 := okG k_Z5 e_Z5 hC_Z5 fun x hx => tf_of (w_Z5_eq x.1 x.2.1 x.2.2 _) (d_Z5 x.1 x.2.1 x.2.2 _ (pp_Z5 x.1 x.2.1 x.2.2 hx) (tt_Z5 x.1 x.2.1 x.2.2 hx))
def C_Z7:Cons := []
theorem hC_Z7:ConsOk Tryz.prog C_Z7 := ConsOk.nil
def w_Z7 (p0:Int) (p1:Int) (p2:Int) (K:Bool→Prop):Prop := ((((decide (p1≤p0))=true) →((decide (p1≤p0))=(decide (p1≤p0)))) ∧((((decide (p1≤p0))=true) →((decide (p1≤p0))=(decide (p1≤p0)))) ∧(((decide (p1≤p0))=(decide (p1≤p0))) ∧(K (cond (decide (p1≤p0)) (decide (p0≤p2)) false)))))
theorem w_Z7_eq (p0:Int) (p1:Int) (p2:Int) (K:Bool→Prop):tfn F_Z7 A_Z7 C_Z7 P_Z7 R_Z7 (p0,p1,p2) K = w_Z7 p0 p1 p2 K := by kernel_rfl
def s_Z7 (p0:Int) (p1:Int) (p2:Int):Bool := (cond (decide (p1≤p0)) (decide (p0≤p2)) false)
abbrev pre_Z7 (_p0:Int) (_p1:Int) (_p2:Int):List Prop := []
theorem d_Z7 (p0:Int) (p1:Int) (p2:Int) (K:Bool→Prop) (_hp:∀ p∈pre_Z7 p0 p1 p2,p) (h:K (s_Z7 p0 p1 p2)):w_Z7 p0 p1 p2 K := by
 unfold w_Z7
 unfold s_Z7 at h
 exact ⟨rf,rf,rfl,h⟩
abbrev con_Z7:Con := ⟨P_Z7,R_Z7,fun x => pre_Z7 x.1 x.2.1 x.2.2,fun x => s_Z7 x.1 x.2.1 x.2.2⟩
theorem ok_Z7:ConOk Tryz.prog 88 con_Z7 := okG k_Z7 e_Z7 hC_Z7 fun x hx => tf_of (w_Z7_eq x.1 x.2.1 x.2.2 _) (d_Z7 x.1 x.2.1 x.2.2 _ hx rfl)
theorem tx_within {n lo hi:Int}:s_Z7 n lo hi = true ↔ lo≤n∧n≤hi := by unfold s_Z7; simp
def C_Zq:Cons := [(88,[],con_Z7)]
theorem hC_Zq:ConsOk Tryz.prog C_Zq := cC ok_Z7 <| ConsOk.nil
def w_Zq (p0:Int) (p1:Int) (K:Bool→Prop):Prop := (K (s_Z7 p0 (IntKind.i64.wrap (zz0 - p1)) p1))
theorem w_Zq_eq (p0:Int) (p1:Int) (K:Bool→Prop):tfn F_Zq A_Zq C_Zq P_Zq R_Zq (p0,p1) K = w_Zq p0 p1 K := by kernel_rfl
def s_Zq (p0:Int) (p1:Int):Bool := (s_Z7 p0 (IntKind.i64.wrap ((0:Int) - p1)) p1)
abbrev pre_Zq (_p0:Int) (_p1:Int):List Prop := []
theorem d_Zq (p0:Int) (p1:Int) (K:Bool→Prop) (_hp:∀ p∈pre_Zq p0 p1,p) (h:K (s_Zq p0 p1)):w_Zq p0 p1 K := by
 unfold w_Zq
 unfold s_Zq at h
 exact h
abbrev con_Zq:Con := ⟨P_Zq,R_Zq,fun x => pre_Zq x.1 x.2,fun x => s_Zq x.1 x.2⟩
theorem ok_Zq:ConOk Tryz.prog 87 con_Zq := okG k_Zq e_Zq hC_Zq fun x hx => tf_of (w_Zq_eq x.1 x.2 _) (d_Zq x.1 x.2 _ hx rfl)
def C_Zu:Cons := [(87,[],con_Zq)]
theorem hC_Zu:ConsOk Tryz.prog C_Zu := cC ok_Zq <| ConsOk.nil
def w_Zu (p0:Int) (K:Bool→Prop):Prop := (K (!(s_Zq p0 (100000:Int))))
theorem w_Zu_eq (p0:Int) (K:Bool→Prop):tfn F_Zu A_Zu C_Zu P_Zu R_Zu p0 K = w_Zu p0 K := by kernel_rfl
def s_Zu (p0:Int):Bool := (!(s_Zq p0 (100000:Int)))
abbrev pre_Zu (_p0:Int):List Prop := []
theorem d_Zu (p0:Int) (K:Bool→Prop) (_hp:∀ p∈pre_Zu p0,p) (h:K (s_Zu p0)):w_Zu p0 K := by
 unfold w_Zu
 unfold s_Zu at h
 exact h
abbrev con_Zu:Con := ⟨P_Zu,R_Zu,fun x => pre_Zu x,fun x => s_Zu x⟩
theorem ok_Zu:ConOk Tryz.prog 167 con_Zu := okG k_Zu e_Zu hC_Zu fun x hx => tf_of (w_Zu_eq x _) (d_Zu x _ hx rfl)
def C_Zj:Cons := [(167,[],con_Zu)]
theorem hC_Zj:ConsOk Tryz.prog C_Zj := cC ok_Zu <| ConsOk.nil
def w_Zj (p0:gF) (_p1:PUnit) (K:Int→Prop):Prop := (∃ n0,(loopP (fun (y1:Int) k2 => ((((decide (y1 < (p0.length:Int)))=true) →((zz0≤y1) ∧((y1 < (p0.length:Int)) ∧((((s_Zu (p0.getD y1.toNat zz0))=true) →(K y1)) ∧(((s_Zu (p0.getD y1.toNat zz0))=false) →(k2 (IntKind.i64.wrap (y1 + 1)))))))) ∧(((decide (y1 < (p0.length:Int)))=false) →(K (-1:Int))))) n0 zz0))
theorem w_Zj_eq (p0:gF) (p1:PUnit) (K:Int→Prop):tfn F_Zj A_Zj C_Zj P_Zj R_Zj (p0,p1) K = w_Zj p0 p1 K := by kernel_rfl
def st_Zj_0 (p0:gF) (_p1:PUnit) (y0:Int):Int ⊕ Int := (cond (decide (y0 < (p0.length:Int))) (cond (s_Zu (p0.getD y0.toNat (0:Int))) (Sum.inr y0) (Sum.inl (IntKind.i64.wrap (y0 + 1)))) (Sum.inr (-1:Int)))
abbrev sp_Zj_0 (p0:gF) (_p1:PUnit) (y0:Int):List Prop := [(((decide (y0 < (p0.length:Int)))=true)→((0:Int)≤y0)),(((decide (y0 < (p0.length:Int)))=true)→(y0 < (p0.length:Int)))]
def s_Zj (p0:gF) (p1:PUnit):Int := (lpv (0:Int) (st_Zj_0 p0 p1) (0:Int))
abbrev pre_Zj (p0:gF) (p1:PUnit):List Prop := [(OkL (st_Zj_0 p0 p1) (sp_Zj_0 p0 p1) (0:Int))]
theorem d_Zj (p0:gF) (p1:PUnit) (K:Int→Prop) (hp:∀ p∈pre_Zj p0 p1,p) (h:K (s_Zj p0 p1)):w_Zj p0 p1 K := by
 unfold w_Zj
 unfold s_Zj at h
 obtain ⟨hp0,_⟩ := conj_of hp
 exact (loop_gen (hp0) h (fun y0 k0 hp h => by
 unfold st_Zj_0 at h; obtain ⟨hp0,hp1,_⟩ := conj_of hp
 exact (br' h (fun e1 h => ⟨(hp0 e1),(hp1 e1),(br' h (fun e2 h => h)
  (fun e2 h => h))⟩)
  (fun e1 h => h))))
theorem l_Zj_0 (p0:gF) (p1:PUnit) (hl:lenOk p0):OkL (st_Zj_0 p0 p1) (sp_Zj_0 p0 p1) 0∧lpv (0:Int) (st_Zj_0 p0 p1) 0 = v_scan (fun i x => cond (s_Zu x) (some i) none) (-1:Int) 0 p0 := by
 refine scan_is p0 0 (fun i x => cond (s_Zu x) (some i) none) (-1:Int) hl ?_ ?_
 ·refine ⟨by simp only [sp_Zj_0,fM,decide_eq_true_eq]; simp,by simp [st_Zj_0]⟩
 ·intro j hj
  have hj' : (j:Int) < p0.length := by omega
  refine ⟨by simp only [sp_Zj_0,fM,decide_eq_true_eq,Int.toNat_natCast]; simp <;> omega,?_⟩
  simp only [st_Zj_0,hj',decide_true,Int.toNat_natCast,cond_true,wrap_nat (show (j:Int)≤9223372036854775806 by unfold lenOk at hl; omega)]
  generalize p0.getD j 0 = x
  cases s_Zu x <;> rfl
def v_idx_Zj (p0:gF):Int := v_scan (fun i x => cond (s_Zu x) (some i) none) (-1) 0 p0
abbrev t_Zj (p0:gF) (_p1:PUnit):Int := v_idx_Zj p0
abbrev qre_Zj (p0:gF) (_p1:PUnit):List Prop := [lenOk p0]
theorem pp_Zj (p0:gF) (p1:PUnit) (hq:∀ p∈qre_Zj p0 p1,p):∀ p∈pre_Zj p0 p1,p := by
 simp only [pre_Zj,fM]
 exact ⟨(l_Zj_0 p0 p1 (conj_of hq).1).1,by simp⟩
theorem tt_Zj (p0:gF) (p1:PUnit) (hq:∀ p∈qre_Zj p0 p1,p):s_Zj p0 p1 = t_Zj p0 p1 := by
 exact (l_Zj_0 p0 p1 (conj_of hq).1).2

abbrev con_Zj:Con := ⟨P_Zj,R_Zj,fun x => qre_Zj x.1 x.2,fun x => t_Zj x.1 x.2⟩
theorem ok_Zj:ConOk Tryz.prog 85 con_Zj := okG k_Zj e_Zj hC_Zj fun x hx => tf_of (w_Zj_eq x.1 x.2 _) (d_Zj x.1 x.2 _ (pp_Zj x.1 x.2 hx) (tt_Zj x.1 x.2 hx))
def C_Zr:Cons := [(85,[167],con_Zj)]
theorem hC_Zr:ConsOk Tryz.prog C_Zr := cC ok_Zj <| ConsOk.nil
def w_Zr (p0:gF) (_p1:PUnit) (K:Bool→Prop):Prop := ((lenOk p0) ∧(K (decide ((v_idx_Zj p0) ≥ 0))))
theorem w_Zr_eq (p0:gF) (p1:PUnit) (K:Bool→Prop):tfn F_Zr A_Zr C_Zr P_Zr R_Zr (p0,p1) K = w_Zr p0 p1 K := by kernel_rfl
def s_Zr (p0:gF) (_p1:PUnit):Bool := (decide ((v_idx_Zj p0) ≥ 0))
abbrev pre_Zr (p0:gF) (_p1:PUnit):List Prop := [(lenOk p0)]
theorem d_Zr (p0:gF) (p1:PUnit) (K:Bool→Prop) (hp:∀ p∈pre_Zr p0 p1,p) (h:K (s_Zr p0 p1)):w_Zr p0 p1 K := by
 unfold w_Zr
 unfold s_Zr at h
 obtain ⟨hp0,_⟩ := conj_of hp
 exact ⟨(hp0),h⟩
def v_any_Zr (p0:gF):Bool := p0.any s_Zu
abbrev t_Zr (p0:gF) (_p1:PUnit):Bool := v_any_Zr p0
abbrev qre_Zr (p0:gF) (_p1:PUnit):List Prop := [lenOk p0]
theorem pp_Zr (p0:gF) (p1:PUnit) (hq:∀ p∈qre_Zr p0 p1,p):∀ p∈pre_Zr p0 p1,p := by
 simpa only [pre_Zr] using hq
theorem tt_Zr (p0:gF) (p1:PUnit) (_hq:∀ p∈qre_Zr p0 p1,p):s_Zr p0 p1 = t_Zr p0 p1 := by
 unfold s_Zr t_Zr v_any_Zr
 exact v_scan_idx p0 0 (Int.le_refl 0)

abbrev con_Zr:Con := ⟨P_Zr,R_Zr,fun x => qre_Zr x.1 x.2,fun x => t_Zr x.1 x.2⟩
theorem ok_Zr:ConOk Tryz.prog 160 con_Zr := okG k_Zr e_Zr hC_Zr fun x hx => tf_of (w_Zr_eq x.1 x.2 _) (d_Zr x.1 x.2 _ (pp_Zr x.1 x.2 hx) (tt_Zr x.1 x.2 hx))
def C_Z6:Cons := []
theorem hC_Z6:ConsOk Tryz.prog C_Z6 := ConsOk.nil
def w_Z6 (p0:Bool) (p1:Int) (K:Int→Prop):Prop := (((p0 = true) →(K zz0)) ∧((p0 = false) →(K p1)))
theorem w_Z6_eq (p0:Bool) (p1:Int) (K:Int→Prop):tfn F_Z6 A_Z6 C_Z6 P_Z6 R_Z6 (p0,p1) K = w_Z6 p0 p1 K := by kernel_rfl
def s_Z6 (p0:Bool) (p1:Int):Int := (cond p0 (0:Int) p1)
abbrev pre_Z6 (_p0:Bool) (_p1:Int):List Prop := []
theorem d_Z6 (p0:Bool) (p1:Int) (K:Int→Prop) (_hp:∀ p∈pre_Z6 p0 p1,p) (h:K (s_Z6 p0 p1)):w_Z6 p0 p1 K := by
 unfold w_Z6
 unfold s_Z6 at h
 exact (br' h (fun e0 h => h)
  (fun e0 h => h))
abbrev con_Z6:Con := ⟨P_Z6,R_Z6,fun x => pre_Z6 x.1 x.2,fun x => s_Z6 x.1 x.2⟩
theorem ok_Z6:ConOk Tryz.prog 84 con_Z6 := okG k_Z6 e_Z6 hC_Z6 fun x hx => tf_of (w_Z6_eq x.1 x.2 _) (d_Z6 x.1 x.2 _ hx rfl)
theorem tx_unless0' {a:Bool} {x:Int} (hx:x ≠ 0) (h:s_Z6 a x = 0):a = true := by
 cases a
 ·exact (hx h).elim
 ·rfl
theorem tx_andU {a b:Bool} (h:(cond a b false)=true):a = true∧b = true := by cases a <;> simp_all
def C_Ze:Cons := []
theorem hC_Ze:ConsOk Tryz.prog C_Ze := ConsOk.nil
def w_Ze (p0:gF) (K:Int→Prop):Prop := (∃ n0,(loopP (fun (y1:Int) k2 => ((((decide (y1 < (p0.length:Int)))=true) →((zz0≤y1) ∧((y1 < (p0.length:Int)) ∧(((((p0.getD y1.toNat zz0) != 0)=true) →(K (p0.getD y1.toNat zz0))) ∧((((p0.getD y1.toNat zz0) != 0)=false) →(k2 (IntKind.i64.wrap (y1 + 1)))))))) ∧(((decide (y1 < (p0.length:Int)))=false) →(K zz0)))) n0 zz0))
theorem w_Ze_eq (p0:gF) (K:Int→Prop):tfn F_Ze A_Ze C_Ze P_Ze R_Ze p0 K = w_Ze p0 K := by kernel_rfl
def st_Ze_0 (p0:gF) (y0:Int):Int ⊕ Int := (cond (decide (y0 < (p0.length:Int))) (cond ((p0.getD y0.toNat (0:Int)) != 0) (Sum.inr (p0.getD y0.toNat (0:Int))) (Sum.inl (IntKind.i64.wrap (y0 + 1)))) (Sum.inr (0:Int)))
abbrev sp_Ze_0 (p0:gF) (y0:Int):List Prop := [(((decide (y0 < (p0.length:Int)))=true)→((0:Int)≤y0)),(((decide (y0 < (p0.length:Int)))=true)→(y0 < (p0.length:Int)))]
def s_Ze (p0:gF):Int := (lpv (0:Int) (st_Ze_0 p0) (0:Int))
abbrev pre_Ze (p0:gF):List Prop := [(OkL (st_Ze_0 p0) (sp_Ze_0 p0) (0:Int))]
theorem d_Ze (p0:gF) (K:Int→Prop) (hp:∀ p∈pre_Ze p0,p) (h:K (s_Ze p0)):w_Ze p0 K := by
 unfold w_Ze
 unfold s_Ze at h
 obtain ⟨hp0,_⟩ := conj_of hp
 exact (loop_gen (hp0) h (fun y0 k0 hp h => by
 unfold st_Ze_0 at h; obtain ⟨hp0,hp1,_⟩ := conj_of hp
 exact (br' h (fun e1 h => ⟨(hp0 e1),(hp1 e1),(br' h (fun e2 h => h)
  (fun e2 h => h))⟩)
  (fun e1 h => h))))
theorem l_Ze_0 (p0:gF) (hl:lenOk p0):OkL (st_Ze_0 p0) (sp_Ze_0 p0) 0∧lpv (0:Int) (st_Ze_0 p0) 0 = v_scan (fun _ x => cond (x != 0) (some x) none) (0:Int) 0 p0 := by
 refine scan_is p0 0 (fun _ x => cond (x != 0) (some x) none) (0:Int) hl ?_ ?_
 ·refine ⟨by simp only [sp_Ze_0,fM,decide_eq_true_eq]; simp,by simp [st_Ze_0]⟩
 ·intro j hj
  have hj' : (j:Int) < p0.length := by omega
  refine ⟨by simp only [sp_Ze_0,fM,decide_eq_true_eq,Int.toNat_natCast]; simp <;> omega,?_⟩
  simp only [st_Ze_0,hj',decide_true,Int.toNat_natCast,cond_true,wrap_nat (show (j:Int)≤9223372036854775806 by unfold lenOk at hl; omega)]
  generalize p0.getD j 0 = x
  cases (x != 0) <;> rfl
abbrev t_Ze (p0:gF):Int := v_first p0
abbrev qre_Ze (p0:gF):List Prop := [lenOk p0]
theorem pp_Ze (p0:gF) (hq:∀ p∈qre_Ze p0,p):∀ p∈pre_Ze p0,p := by
 simp only [pre_Ze,fM]
 exact ⟨(l_Ze_0 p0 (conj_of hq).1).1,by simp⟩
theorem tt_Ze (p0:gF) (hq:∀ p∈qre_Ze p0,p):s_Ze p0 = t_Ze p0 := by
 exact (l_Ze_0 p0 (conj_of hq).1).2.trans (v_first_scan p0 0)

abbrev con_Ze:Con := ⟨P_Ze,R_Ze,fun x => qre_Ze x,fun x => t_Ze x⟩
theorem ok_Ze:ConOk Tryz.prog 83 con_Ze := okG k_Ze e_Ze hC_Ze fun x hx => tf_of (w_Ze_eq x _) (d_Ze x _ (pp_Ze x hx) (tt_Ze x hx))
def C_Z1b:Cons := []
theorem hC_Z1b:ConsOk Tryz.prog C_Z1b := ConsOk.nil
def w_Z1b (p0:gF) (K:(List Int)→Prop):Prop := (((p0.length = 0) →(K ([]:List Int))) ∧(((((List.length ([]:List Int)) + p0.length) * 8)≤140737488355328) ∧(K (([]:List Int) ++ p0))))
theorem w_Z1b_eq (p0:gF) (K:(List Int)→Prop):tfnO F_Z1b A_Z1b C_Z1b P_Z1b E_Z1b p0 K = w_Z1b p0 K := by kernel_rfl
def s_Z1b (p0:gF):List Int := p0
abbrev pre_Z1b (p0:gF):List Prop := [p0.length≤1000000]
theorem d_Z1b (p0:gF) (K:List Int→Prop) (hp:∀ p∈pre_Z1b p0,p) (h:K (s_Z1b p0)):w_Z1b p0 K := by
 have h1 := (conj_of hp).1
 refine ⟨fun e => ?_,by simp only [List.length_nil]; omega,h⟩
 have:p0 = [] := List.eq_nil_of_length_eq_zero e
 subst this; exact h

abbrev con_Z1b:Con := ⟨P_Z1b,[.one (.sl E_Z1b)],fun x => pre_Z1b x,fun x => s_Z1b x⟩
theorem ok_Z1b:ConOOk Tryz.prog 82 con_Z1b := conO_tf (e := E_Z1b) (ps := P_Z1b) k_Z1b e_Z1b hC_Z1b (fun x hx => tfo_of (w_Z1b_eq x (fun z => z = s_Z1b x)) (d_Z1b x (fun z => z = s_Z1b x) hx rfl))
def C_Zc:Cons := []
theorem hC_Zc:ConsOk Tryz.prog C_Zc := ConsOk.nil
def w_Zc (p0:gF) (K:(List Int)→Prop):Prop := (∃ n0,(loopP (fun (y1:(Int×(Int×(List Int)))) k2 => ((((decide (y1.2.1 < y1.1))=true) →((zz0≤y1.1) ∧((y1.1 < (y1.2.2.length:Int)) ∧((zz0≤y1.2.1) ∧((y1.2.1 < (y1.2.2.length:Int)) ∧((zz0≤y1.2.1) ∧((y1.2.1 < (y1.2.2.length:Int)) ∧((zz0≤y1.1) ∧((y1.1 < (((List.length (List.set y1.2.2 y1.2.1.toNat (y1.2.2.getD y1.1.toNat zz0))):Nat):Int)) ∧(k2 ((IntKind.i64.wrap (y1.1 - 1)),((IntKind.i64.wrap (y1.2.1 + 1)),(List.set (List.set y1.2.2 y1.2.1.toNat (y1.2.2.getD y1.1.toNat zz0)) y1.1.toNat (y1.2.2.getD y1.2.1.toNat zz0)))))))))))))) ∧(((decide (y1.2.1 < y1.1))=false) →(K y1.2.2)))) n0 ((IntKind.i64.wrap ((p0.length:Int) - 1)),(zz0,p0))))
theorem w_Zc_eq (p0:gF) (K:(List Int)→Prop):tfnN F_Zc A_Zc C_Zc 1 P_Zc R_Zc p0 K = w_Zc p0 K := by kernel_rfl
def st_Zc_0 (_p0:gF) (y0:(Int×(Int×(List Int)))):(Int×(Int×(List Int))) ⊕ (List Int) := (cond (decide (y0.2.1 < y0.1)) (Sum.inl ((IntKind.i64.wrap (y0.1 - 1)),((IntKind.i64.wrap (y0.2.1 + 1)),(List.set (List.set y0.2.2 y0.2.1.toNat (y0.2.2.getD y0.1.toNat (0:Int))) y0.1.toNat (y0.2.2.getD y0.2.1.toNat (0:Int)))))) (Sum.inr y0.2.2))
abbrev sp_Zc_0 (_p0:gF) (y0:(Int×(Int×(List Int)))):List Prop := [(((decide (y0.2.1 < y0.1))=true)→((0:Int)≤y0.1)),(((decide (y0.2.1 < y0.1))=true)→(y0.1 < (y0.2.2.length:Int))),(((decide (y0.2.1 < y0.1))=true)→((0:Int)≤y0.2.1)),(((decide (y0.2.1 < y0.1))=true)→(y0.2.1 < (y0.2.2.length:Int))),(((decide (y0.2.1 < y0.1))=true)→(y0.1 < (((List.length (List.set y0.2.2 y0.2.1.toNat (y0.2.2.getD y0.1.toNat (0:Int)))):Nat):Int)))]
def s_Zc (p0:gF):(List Int) := (lpv [] (st_Zc_0 p0) ((IntKind.i64.wrap ((p0.length:Int) - 1)),((0:Int),p0)))
abbrev pre_Zc (p0:gF):List Prop := [(OkL (st_Zc_0 p0) (sp_Zc_0 p0) ((IntKind.i64.wrap ((p0.length:Int) - 1)),((0:Int),p0)))]
theorem d_Zc (p0:gF) (K:(List Int)→Prop) (hp:∀ p∈pre_Zc p0,p) (h:K (s_Zc p0)):w_Zc p0 K := by
 unfold w_Zc
 unfold s_Zc at h
 obtain ⟨hp0,_⟩ := conj_of hp
 exact (loop_gen (hp0) h (fun y0 k0 hp h => by
 unfold st_Zc_0 at h; obtain ⟨hp0,hp1,hp2,hp3,hp4,_⟩ := conj_of hp
 exact (br' h (fun e1 h => ⟨(hp0 e1),(hp1 e1),(hp2 e1),(hp3 e1),(hp2 e1),(hp3 e1),(hp0 e1),(hp4 e1),h⟩)
  (fun e1 h => h))))
def v_rev (l:gF):List Int := l.reverse
theorem l_Zc (p0:gF) (h:p0.length≤1000000):OkL (st_Zc_0 p0) (sp_Zc_0 p0) ((IntKind.i64.wrap ((p0.length:Int) - 1)),((0:Int),p0))∧s_Zc p0 = p0.reverse := by
 unfold s_Zc
 rw [wrap_id (show -9223372036854775808≤(p0.length:Int) - 1 by omega) (by omega)]
 refine loop_is (fun y:Int×Int×List Int => ∃ i:Nat,y.2.1 = i∧y.1 = p0.length - 1 - i∧2 * i≤p0.length + 1∧y.2.2.length = p0.length∧∀ k,k < p0.length→y.2.2.getD k 0 = p0.getD (if k < i ∨ p0.length≤k + i then p0.length - 1 - k else k) 0) (fun y => (y.1 + 1).toNat) (fun _ => p0.reverse) ?_ ⟨0,rfl,by simp,by omega,rfl,fun k hk => by rw [if_neg (by omega)]⟩ (by unfold fuel; simp only; omega)
 rintro ⟨j,i',l⟩ ⟨i,h1,h2,h3,h4,h5⟩
 simp only at h1 h2 h4 h5
 subst h1
 by_cases c:(i:Int) < j
 ·obtain ⟨q,hq⟩ : ∃ q:Nat,j = q := ⟨j.toNat,by omega⟩
  subst hq
  refine ⟨by simp only [sp_Zc_0,fM,List.length_set]; exact ⟨fun _ => by omega,fun _ => by omega,fun _ => by omega,fun _ => by omega,fun _ => by omega,by simp⟩,?_⟩
  simp only [st_Zc_0,c,decide_true,cond_true,Int.toNat_natCast,wrap_nat (show (i:Int)≤9223372036854775806 by omega),wrap_id (show -9223372036854775808≤(q:Int) - 1 by omega) (show (q:Int) - 1≤9223372036854775807 by omega)]
  refine ⟨⟨i + 1,rfl,by omega,by omega,by simp [h4],fun k hk => ?_⟩,by omega,trivial⟩
  rw [gd_set (by simp; omega),gd_set (by omega)]
  by_cases k1:k = q
  ·rw [if_pos k1,h5 i (by omega),if_neg (by omega),if_pos (by omega)]
   congr 1; omega
  ·rw [if_neg k1]
   by_cases k2:k = i
   ·rw [if_pos k2,h5 q (by omega),if_neg (by omega),if_pos (by omega)]
    congr 1; omega
   ·rw [if_neg k2,h5 k hk]
    by_cases k3:k < i ∨ p0.length≤k + i
    ·rw [if_pos k3,if_pos (by omega)]
    ·rw [if_neg k3,if_neg (by omega)]
 ·refine ⟨by simp only [sp_Zc_0,fM,c,decide_false]; simp,?_⟩
  simp only [st_Zc_0,c,decide_false,cond_false]
  refine gd_ext 0 (by simp [h4]) fun k hk => ?_
  rw [List.length_reverse] at hk
  rw [gd_rev hk,h5 k hk]
  by_cases k3:k < i ∨ p0.length≤k + i
  ·rw [if_pos k3]
  ·rw [if_neg k3]; congr 1; omega
abbrev t_Zc (p0:gF):List Int := v_rev p0
abbrev qre_Zc (p0:gF):List Prop := [p0.length≤1000000]
theorem pp_Zc (p0:gF) (hq:∀ p∈qre_Zc p0,p):∀ p∈pre_Zc p0,p := by
 simp only [pre_Zc,fM]
 exact ⟨(l_Zc p0 (conj_of hq).1).1,by simp⟩
theorem tt_Zc (p0:gF) (hq:∀ p∈qre_Zc p0,p):s_Zc p0 = t_Zc p0 := by
 exact (l_Zc p0 (conj_of hq).1).2
theorem hl_Zc (p0:gF) (_:∀ p∈qre_Zc p0,p):((valPs R_Zc (t_Zc p0)).drop (R_Zc.length - 1)).map (fun v => (slEs v).length)=((valPs P_Zc p0).drop (P_Zc.length - 1)).map (fun v => (slEs v).length) := by
 simp [valPs,valP,slEs,Ty.enc,t_Zc,v_rev]

abbrev con_Zc:Con := ⟨P_Zc,R_Zc,fun x => qre_Zc x,fun x => t_Zc x⟩
theorem ok_Zc:ConNOk Tryz.prog 201 1 con_Zc := conN_tf k_Zc e_Zc hC_Zc con_Zc (by decide) (by decide) rfl rfl (fun x hx => tfN_of (w_Zc_eq x (fun z => z = t_Zc x)) (d_Zc x (fun z => z = t_Zc x) (pp_Zc x hx) (tt_Zc x hx))) (fun x hx => hl_Zc x hx)
def C_Zw:Cons := [(82,ownMark,con_Z1b),(201,nMark 1,con_Zc)]
theorem hC_Zw:ConsOk Tryz.prog C_Zw := ConsOk.consO ok_Z1b <| ConsOk.consN ok_Zc <| ConsOk.nil
def w_Zw (p0:gF) (K:(List Int)→Prop):Prop := ((p0.length≤1000000) ∧((0 < p0.length) ∧((p0.length≤1000000) ∧((zz0≤1) ∧((zz1≤(p0.length:Int)) ∧(((((List.length (v_rev p0)) + (List.length (List.drop (Int.toNat zz1) p0))) * 8)≤140737488355328) ∧(K ((v_rev p0) ++ (List.drop (Int.toNat zz1) p0)))))))))
theorem w_Zw_eq (p0:gF) (K:(List Int)→Prop):tfnO F_Zw A_Zw C_Zw P_Zw E_Zw p0 K = w_Zw p0 K := by kernel_rfl
def s_Zw (p0:gF):(List Int) := ((v_rev p0) ++ (List.drop (Int.toNat (1:Int)) p0))
abbrev pre_Zw (p0:gF):List Prop := [(p0.length≤1000000),(0 < p0.length),((1:Int)≤(p0.length:Int)),((((List.length (v_rev p0)) + (List.length (List.drop (Int.toNat (1:Int)) p0))) * 8)≤140737488355328)]
theorem d_Zw (p0:gF) (K:(List Int)→Prop) (hp:∀ p∈pre_Zw p0,p) (h:K (s_Zw p0)):w_Zw p0 K := by
 unfold w_Zw
 unfold s_Zw at h
 obtain ⟨hp0,hp1,hp2,hp3,_⟩ := conj_of hp
 exact ⟨(hp0),(hp1),(hp0),(od rfl),(hp2),(hp3),h⟩
/-- The weight of a neighbour on either side,0 beyond the last one. -/
def v_at (f:gF) (k:Int):Int := f.getD k.natAbs 0
theorem v_at_out {f:List Int} {k:Int} (h:f.length≤k.natAbs):v_at f k = 0 := gd_out _ h
theorem v_at_in {f:List Int} {m:Int} (hm:0≤m) (h:∀ x∈f,-m≤x∧x≤m) (k:Int) : -m≤v_at f k∧v_at f k≤m := by
 by_cases c:k.natAbs < f.length
 ·exact h _ (getD_mem' 0 c)
 ·rw [v_at_out (by omega)]; omega
/-- The weights on both sides. -/
def v_both (f:gF):List Int := f.reverse ++ f.drop 1
theorem v_both_len {f:List Int} (h:1≤f.length):(v_both f).length = 2 * f.length - 1 := by simp [v_both]; omega
theorem v_both_at {f:List Int} {k:Nat} (_h:k < 2 * f.length - 1):(v_both f).getD k 0 = v_at f ((k:Int) - ((f.length:Int) - 1)) := by
 unfold v_both v_at
 rw [gd_app,List.length_reverse]
 by_cases c:k < f.length
 ·rw [if_pos c,gd_rev c]; congr 1; omega
 ·rw [if_neg c,gd_drop]; congr 1; omega
/-- Weights. -/
structure v_fw (f:gF):Prop where
 one:1≤f.length
 nine:f.length≤9
 all:∀ x∈f,-100000≤x∧x≤100000
theorem v_fw.at {f:List Int} (h:v_fw f) (k:Int) : -100000≤v_at f k∧v_at f k≤100000 := v_at_in (by decide) h.all k
/-- The sum of a filter. -/
def v_fsum (f:gF):Int := v_sums (fun j => v_at f ((j:Int) - ((f.length:Int) - 1))) 0 (2 * f.length - 1)
abbrev t_Zw (p0:gF):List Int := v_both p0
abbrev qre_Zw (p0:gF):List Prop := [1≤p0.length∧p0.length≤1000000]
theorem pp_Zw (p0:gF) (hq:∀ p∈qre_Zw p0,p):∀ p∈pre_Zw p0,p := by
 have h := (conj_of hq).1
 simp only [pre_Zw,fM]
 exact ⟨h.2,by omega,by omega,by simp [v_rev]; omega,by simp⟩
theorem tt_Zw (p0:gF) (_hq:∀ p∈qre_Zw p0,p):s_Zw p0 = t_Zw p0 := by
 rfl

abbrev con_Zw:Con := ⟨P_Zw,[.one (.sl E_Zw)],fun x => qre_Zw x,fun x => t_Zw x⟩
theorem ok_Zw:ConOOk Tryz.prog 159 con_Zw := conO_tf (e := E_Zw) (ps := P_Zw) k_Zw e_Zw hC_Zw (fun x hx => tfo_of (w_Zw_eq x (fun z => z = t_Zw x)) (d_Zw x (fun z => z = t_Zw x) (pp_Zw x hx) (tt_Zw x hx)))
def C_Zl:Cons := [(159,ownMark,con_Zw)]
theorem hC_Zl:ConsOk Tryz.prog C_Zl := ConsOk.consO ok_Zw <| ConsOk.nil
def w_Zl (p0:gF) (K:Int→Prop):Prop := (((1≤p0.length) ∧(p0.length≤1000000)) ∧(∃ n0,(loopP (fun (y1:gG) k2 => ((((decide (y1.1 < (((v_both p0).length:Nat):Int)))=true) →((zz0≤y1.1) ∧((y1.1 < (((v_both p0).length:Nat):Int)) ∧(k2 ((IntKind.i64.wrap (y1.1 + 1)),(IntKind.i64.wrap (y1.2 + (List.getD (v_both p0) y1.1.toNat zz0)))))))) ∧(((decide (y1.1 < (((v_both p0).length:Nat):Int)))=false) →(K y1.2)))) n0 (zz0,zz0))))
theorem w_Zl_eq (p0:gF) (K:Int→Prop):tfn F_Zl A_Zl C_Zl P_Zl R_Zl p0 K = w_Zl p0 K := by kernel_rfl
def st_Zl_0 (p0:gF) (y0:gG):(Int×Int) ⊕ Int := (cond (decide (y0.1 < (((v_both p0).length:Nat):Int))) (Sum.inl ((IntKind.i64.wrap (y0.1 + 1)),(IntKind.i64.wrap (y0.2 + (List.getD (v_both p0) y0.1.toNat (0:Int)))))) (Sum.inr y0.2))
abbrev sp_Zl_0 (p0:gF) (y0:gG):List Prop := [(((decide (y0.1 < (((v_both p0).length:Nat):Int)))=true)→((0:Int)≤y0.1)),(((decide (y0.1 < (((v_both p0).length:Nat):Int)))=true)→(y0.1 < (((v_both p0).length:Nat):Int)))]
def s_Zl (p0:gF):Int := (lpv (0:Int) (st_Zl_0 p0) (0,0))
abbrev pre_Zl (p0:gF):List Prop := [((1≤p0.length)∧(p0.length≤1000000)),(OkL (st_Zl_0 p0) (sp_Zl_0 p0) (0,0))]
theorem d_Zl (p0:gF) (K:Int→Prop) (hp:∀ p∈pre_Zl p0,p) (h:K (s_Zl p0)):w_Zl p0 K := by
 unfold w_Zl
 unfold s_Zl at h
 obtain ⟨hp0,hp1,_⟩ := conj_of hp
 exact ⟨(hp0),(loop_gen (hp1) h (fun y0 k0 hp h => by
 unfold st_Zl_0 at h; obtain ⟨hp0,hp1,_⟩ := conj_of hp
 exact (br' h (fun e1 h => ⟨(hp0 e1),(hp1 e1),h⟩)
  (fun e1 h => h))))⟩
theorem l_Zl (p0:gF) (h:v_fw p0):OkL (st_Zl_0 p0) (sp_Zl_0 p0) (0,0)∧s_Zl p0 = v_fsum p0 := by
 have h1 := h.one
 have h2 := h.nine
 have hl := v_both_len h1
 refine for_is (fun i t => (i,t)) 0 (2 * p0.length - 1) (fun j t => t = v_sums (fun j => v_at p0 ((j:Int) - ((p0.length:Int) - 1))) 0 j) (fun _ _ => v_fsum p0) (by omega) (by omega) ?_ ?_ 0 rfl
 ·intro t ht
  have hd:decide (((2 * p0.length - 1:Nat):Int) < ((v_both p0).length:Nat))=false := decide_eq_false (by omega)
  refine ⟨by simp only [sp_Zl_0,fM,hd]; simp,?_⟩
  simp only [st_Zl_0,hd,cond_false]
  rw [ht]; rfl
 ·intro j t _ hj ht
  have hd:decide ((j:Int) < ((v_both p0).length:Nat))=true := decide_eq_true (by omega)
  refine ⟨by simp only [sp_Zl_0,fM,hd]; exact ⟨fun _ => by omega,fun _ => by omega,by simp⟩,.inl ⟨_,?_,rfl,rfl⟩⟩
  have hb := v_sums_in (f := fun j => v_at p0 ((j:Int) - ((p0.length:Int) - 1))) (m := 100000) j 0 (fun k _ _ => h.at _)
  have ha := h.at ((j:Int) - ((p0.length:Int) - 1))
  simp only [st_Zl_0,hd,cond_true,Int.toNat_natCast,wrap_nat (show (j:Int)≤9223372036854775806 by omega)]
  rw [v_both_at hj,ht,v_sums_last,Nat.zero_add,wrap_id (by omega) (by omega)]
abbrev t_Zl (p0:gF):Int := v_fsum p0
abbrev qre_Zl (p0:gF):List Prop := [v_fw p0]
theorem pp_Zl (p0:gF) (hq:∀ p∈qre_Zl p0,p):∀ p∈pre_Zl p0,p := by
 have h := (conj_of hq).1
 have h1 := h.one
 have h2 := h.nine
 simp only [pre_Zl,fM]
 exact ⟨by omega,(l_Zl p0 h).1,by simp⟩
theorem tt_Zl (p0:gF) (hq:∀ p∈qre_Zl p0,p):s_Zl p0 = t_Zl p0 := by
 exact (l_Zl p0 (conj_of hq).1).2

abbrev con_Zl:Con := ⟨P_Zl,R_Zl,fun x => qre_Zl x,fun x => t_Zl x⟩
theorem ok_Zl:ConOk Tryz.prog 168 con_Zl := okG k_Zl e_Zl hC_Zl fun x hx => tf_of (w_Zl_eq x _) (d_Zl x _ (pp_Zl x hx) (tt_Zl x hx))
def C_Zs:Cons := [(160,[167],con_Zr),(84,[],con_Z6),(83,[],con_Ze),(168,[],con_Zl)]
theorem hC_Zs:ConsOk Tryz.prog C_Zs := cC ok_Zr <| cC ok_Z6 <| cC ok_Ze <| cC ok_Zl <| ConsOk.nil
abbrev q0_Zs (p0:gF) := ((s_Z6 (decide ((p0.length:Int) > zz0)) (10:Int)) :: ((s_Z6 (decide ((p0.length:Int)≤9)) (8:Int)) :: ((s_Z6 (!(v_any_Zr p0)) zz2) :: ([]:List Int))))
def w_Zs (p0:gF) (K:Int→Prop):Prop := ((lenOk p0) ∧((lenOk (q0_Zs p0)) ∧(((((v_first (q0_Zs p0)) != zz0)=true) →(K (v_first (q0_Zs p0)))) ∧((((v_first (q0_Zs p0)) != zz0)=false) →((v_fw p0) ∧(K (s_Z6 (decide ((v_fsum p0) > zz0)) (11:Int))))))))
theorem w_Zs_eq (p0:gF) (K:Int→Prop):tfn F_Zs A_Zs C_Zs P_Zs R_Zs p0 K = w_Zs p0 K := by kernel_rfl
def s_Zs (p0:gF):Int := (cond ((v_first ((s_Z6 (decide ((p0.length:Int) > 0)) (10:Int)) :: ((s_Z6 (decide ((p0.length:Int)≤9)) (8:Int)) :: ((s_Z6 (!(v_any_Zr p0)) (2:Int)) :: ([]:List Int))))) != 0) (v_first ((s_Z6 (decide ((p0.length:Int) > 0)) (10:Int)) :: ((s_Z6 (decide ((p0.length:Int)≤9)) (8:Int)) :: ((s_Z6 (!(v_any_Zr p0)) (2:Int)) :: ([]:List Int))))) (s_Z6 (decide ((v_fsum p0) > 0)) (11:Int)))
abbrev pre_Zs (p0:gF):List Prop := [(lenOk p0),((((v_first ((s_Z6 (decide ((p0.length:Int) > 0)) (10:Int)) :: ((s_Z6 (decide ((p0.length:Int)≤9)) (8:Int)) :: ((s_Z6 (!(v_any_Zr p0)) (2:Int)) :: ([]:List Int))))) != 0)=false)→(v_fw p0))]
theorem d_Zs (p0:gF) (K:Int→Prop) (hp:∀ p∈pre_Zs p0,p) (h:K (s_Zs p0)):w_Zs p0 K := by
 unfold w_Zs
 unfold s_Zs at h
 obtain ⟨hp0,hp1,_⟩ := conj_of hp
 exact ⟨(hp0),(lenOk_of 3 rfl (by decide)),(br' h (fun e0 h => h)
  (fun e0 h => ⟨(hp1 e0),h⟩))⟩
/-- The errors of weights alone. -/
def v_fw0 (p0:gF):Int := v_first [s_Z6 (decide ((p0.length:Int) > 0)) 10,s_Z6 (decide ((p0.length:Int)≤9)) 8,s_Z6 (!(v_any_Zr p0)) 2]
/-- The error of a filter. -/
def v_filerr (p0:gF):Int := cond (v_fw0 p0 != 0) (v_fw0 p0) (s_Z6 (decide (v_fsum p0 > 0)) 11)
theorem tx_sized {x:Int}:s_Zq x 100000 = true ↔ -100000≤x∧x≤100000 := by
 unfold s_Zq
 rw [show IntKind.i64.wrap (0 - 100000) = -100000 from rfl]
 exact tx_within
theorem tx_fw {p0:List Int} (h:v_fw0 p0 = 0):v_fw p0 := by
 obtain ⟨h1,h⟩ := v_first0 h
 obtain ⟨h2,h⟩ := v_first0 h
 obtain ⟨h3,_⟩ := v_first0 h
 have g1 := of_decide_eq_true (tx_unless0' (by decide) h1)
 have g2 := of_decide_eq_true (tx_unless0' (by decide) h2)
 have g3 := tx_unless0' (by decide) h3
 refine ⟨by omega,by omega,fun x hx => ?_⟩
 have:p0.any s_Zu = false := by simpa [v_any_Zr] using g3
 have := List.any_eq_false.1 this x hx
 exact tx_sized.1 (by simpa [s_Zu] using this)
/-- A valid filter. -/
structure v_fok (f:gF):Prop extends v_fw f where
 pos:0 < v_fsum f
abbrev t_Zs (p0:gF):Int := v_filerr p0
abbrev qre_Zs (p0:gF):List Prop := [lenOk p0]
theorem pp_Zs (p0:gF) (hq:∀ p∈qre_Zs p0,p):∀ p∈pre_Zs p0,p := by
 simp only [pre_Zs,fM]
 exact ⟨(conj_of hq).1,fun h => tx_fw (bne0' h),by simp⟩
theorem tt_Zs (p0:gF) (_:∀ p∈qre_Zs p0,p):s_Zs p0 = t_Zs p0 := rfl

abbrev con_Zs:Con := ⟨P_Zs,R_Zs,fun x => qre_Zs x,fun x => t_Zs x⟩
theorem ok_Zs:ConOk Tryz.prog 110 con_Zs := okG k_Zs e_Zs hC_Zs fun x hx => tf_of (w_Zs_eq x _) (d_Zs x _ (pp_Zs x hx) (tt_Zs x hx))
def C_Zz:Cons := [(76,[],con_Z5),(110,[],con_Zs)]
theorem hC_Zz:ConsOk Tryz.prog C_Zz := cC ok_Z5 <| cC ok_Zs <| ConsOk.nil
def w_Zz (p0:ByteArray) (K:((List Int)×Int)→Prop):Prop := ((((decide ((((ByteArray.size p0):Nat):Int) > 60000))=true) →(K (([]:List Int),(8:Int)))) ∧(((decide ((((ByteArray.size p0):Nat):Int) > 60000))=false) →(((ByteArray.size p0)≤1000000) ∧(((7:Int)≤16) ∧((((!(v_gnp (7:Int) zz0 (v_ct p0 (32:Int))).2)=true) →(K (([]:List Int),(7:Int)))) ∧(((!(v_gnp (7:Int) zz0 (v_ct p0 (32:Int))).2)=false) →((lenOk (v_gnp (7:Int) zz0 (v_ct p0 (32:Int))).1) ∧(((((v_filerr (v_gnp (7:Int) zz0 (v_ct p0 (32:Int))).1) != 0)=true) →(K (([]:List Int),(v_filerr (v_gnp (7:Int) zz0 (v_ct p0 (32:Int))).1)))) ∧((((v_filerr (v_gnp (7:Int) zz0 (v_ct p0 (32:Int))).1) != 0)=false) →(K ((v_gnp (7:Int) zz0 (v_ct p0 (32:Int))).1,zz0)))))))))))
theorem w_Zz_eq (p0:ByteArray) (K:((List Int)×Int)→Prop):tfn F_Zz A_Zz C_Zz P_Zz R_Zz p0 K = w_Zz p0 K := by kernel_rfl
def s_Zz (p0:ByteArray):((List Int)×Int) := (cond (decide ((((ByteArray.size p0):Nat):Int) > 60000)) (([]:List Int),(8:Int)) (cond (!(v_gnp (7:Int) (0:Int) (v_ct p0 (32:Int))).2) (([]:List Int),(7:Int)) (cond ((v_filerr (v_gnp (7:Int) (0:Int) (v_ct p0 (32:Int))).1) != 0) (([]:List Int),(v_filerr (v_gnp (7:Int) (0:Int) (v_ct p0 (32:Int))).1)) ((v_gnp (7:Int) (0:Int) (v_ct p0 (32:Int))).1,(0:Int)))))
abbrev pre_Zz (p0:ByteArray):List Prop := [(((decide ((((ByteArray.size p0):Nat):Int) > 60000))=false)→((ByteArray.size p0)≤1000000)),(((decide ((((ByteArray.size p0):Nat):Int) > 60000))=false)→(((!(v_gnp (7:Int) (0:Int) (v_ct p0 (32:Int))).2)=false)→(lenOk (v_gnp (7:Int) (0:Int) (v_ct p0 (32:Int))).1)))]
theorem d_Zz (p0:ByteArray) (K:((List Int)×Int)→Prop) (hp:∀ p∈pre_Zz p0,p) (h:K (s_Zz p0)):w_Zz p0 K := by
 unfold w_Zz
 unfold s_Zz at h
 obtain ⟨hp0,hp1,_⟩ := conj_of hp
 exact (br' h (fun e0 h => h)
  (fun e0 h => ⟨(hp0 e0),(od rfl),(br' h (fun e1 h => h)
  (fun e1 h => ⟨(hp1 e0 e1),(br' h (fun e2 h => h)
  (fun e2 h => h))⟩))⟩))
def v_pfil (p0:ByteArray):List Int×Int := cond (decide ((p0.size:Int) > 60000)) ([],8) (cond (!(v_gnp 7 0 (v_ct p0 32)).2) ([],7) (cond (v_filerr (v_gnp 7 0 (v_ct p0 32)).1 != 0) ([],v_filerr (v_gnp 7 0 (v_ct p0 32)).1) ((v_gnp 7 0 (v_ct p0 32)).1,0)))
abbrev t_Zz (p0:ByteArray):List Int×Int := v_pfil p0
abbrev qre_Zz (_p0:ByteArray):List Prop := []
theorem pp_Zz (p0:ByteArray) (_hq:∀ p∈qre_Zz p0,p):∀ p∈pre_Zz p0,p := by
 have hc := v_ct_len p0 32
 have hm:p0.size≤60000→∀ z∈v_ct p0 32,z.size≤1000000 := fun h z hz => by have := v_ct_mem hz; omega
 have hg := v_gnp_len 7 0 (v_ct p0 32)
 have hs:decide ((p0.size:Int) > 60000)=false→p0.size≤60000 := fun h => by have := of_decide_eq_false h; omega
 simp only [pre_Zz,fM]
 and_intros
 all_goals first | (intro h; have := hs h; omega) | (intro h; exact hm (hs h)) | (intro h _; have := hs h; unfold lenOk; omega) | (intro _; decide) | (simp; done)
theorem tt_Zz (p0:ByteArray) (_hq:∀ p∈qre_Zz p0,p):s_Zz p0 = t_Zz p0 := rfl

abbrev con_Zz:Con := ⟨P_Zz,R_Zz,fun x => qre_Zz x,fun x => t_Zz x⟩
theorem ok_Zz:ConOk Tryz.prog 43 con_Zz := okG k_Zz e_Zz hC_Zz fun x hx => tf_of (w_Zz_eq x _) (d_Zz x _ (pp_Zz x hx) (tt_Zz x hx))
abbrev con_Z1f:Con := ⟨P_Z1f,R_Z1f,fun x => [x.1.size < 4294967281,1≤x.2.size],fun x => v_spl x.1 x.2⟩
theorem ok_Z1f:ConOk Tryz.prog 75 con_Z1f := ⟨k_Z1f,fun x hx => by
 obtain ⟨h1,h2,_⟩ := conj_of hx
 exact ret_split Tryz.lays146 (by kernel_rfl) rfl x.1 x.2 h1 h2 false⟩
structure v_nok (n:Nat) (l:List tQC):Prop where
 n1:1≤n
 n8:n≤8
 len:l.length≤12
 all:∀ t∈l,(0≤t.1∧t.1 < n)∧(0≤t.2.1∧t.2.1 < n)∧t.1 ≠ t.2.1∧(-1000000≤t.2.2.1∧t.2.2.1≤1000000)∧(-1000000≤t.2.2.2∧t.2.2.2≤1000000)∧t.2.2.1≤t.2.2.2
/-- Values are small. -/
structure v_bd (n t:Nat) (v:gF) (k:List Bool):Prop where
 vl:v.length = n
 kl:k.length = n
 small:∀ i,-(t * 1000000:Int)≤v.getD i 0∧v.getD i 0≤t * 1000000
structure v_lwok (p0:List tQC) (p1:gF) (p2:List Bool):Prop where
 nok:v_nok p1.length p0
 zero:∀ i,p1.getD i 0 = 0
 len:p2.length = p1.length
def v_nokI (n:Int) (l:List tQC):Prop := v_nok n.toNat l∧0≤n
/-- The ties with some indexes. -/
def v_pick (l:List tQC) (set:gF):List tQC := set.map fun i => l.getD i.toNat (0,0,0,0)
structure v_setok (n:Int) (l:List tQC) (set:gF):Prop where
 nok:v_nokI n l
 few:set.length≤12
 idx:∀ i∈set,0≤i∧i < l.length
theorem v_setok.pick {n:Int} {l:List tQC} {set:List Int} (h:v_setok n l set):v_nokI n (v_pick l set) := by
 refine ⟨⟨h.nok.1.n1,h.nok.1.n8,by simpa [v_pick] using h.few,fun t ht => ?_⟩,h.nok.2⟩
 obtain ⟨i,hi,rfl⟩ := List.mem_map.1 ht
 have := h.idx i hi
 exact h.nok.1.all _ (getD_mem' _ (by omega))
def C_Zt:Cons := [(87,[],con_Zq),(84,[],con_Z6),(83,[],con_Ze)]
theorem hC_Zt:ConsOk Tryz.prog C_Zt := cC ok_Zq <| cC ok_Z6 <| cC ok_Ze <| ConsOk.nil
def w_Zt (p0:gG) (p1:Int) (K:Int→Prop):Prop := ((((s_Zq p0.1 p1)=true) →((s_Zq p0.1 p1)=(s_Zq p0.1 p1))) ∧((((s_Zq p0.1 p1)=true) →((s_Zq p0.1 p1)=(s_Zq p0.1 p1))) ∧((((s_Zq p0.1 p1)=true) →((s_Zq p0.1 p1)=(s_Zq p0.1 p1))) ∧(((s_Zq p0.1 p1)=(s_Zq p0.1 p1)) ∧((lenOk ((s_Z6 (cond (s_Zq p0.1 p1) (s_Zq p0.2 p1) false) (2:Int)) :: ((s_Z6 (decide (p0.1≤p0.2)) (9:Int)) :: ([]:List Int)))) ∧(K (v_first ((s_Z6 (cond (s_Zq p0.1 p1) (s_Zq p0.2 p1) false) (2:Int)) :: ((s_Z6 (decide (p0.1≤p0.2)) (9:Int)) :: ([]:List Int))))))))))
theorem w_Zt_eq (p0:gG) (p1:Int) (K:Int→Prop):tfn F_Zt A_Zt C_Zt P_Zt R_Zt (p0,p1) K = w_Zt p0 p1 K := by kernel_rfl
def s_Zt (p0:gG) (p1:Int):Int := (v_first ((s_Z6 (cond (s_Zq p0.1 p1) (s_Zq p0.2 p1) false) (2:Int)) :: ((s_Z6 (decide (p0.1≤p0.2)) (9:Int)) :: ([]:List Int))))
abbrev pre_Zt (_p0:gG) (_p1:Int):List Prop := []
theorem d_Zt (p0:gG) (p1:Int) (K:Int→Prop) (_hp:∀ p∈pre_Zt p0 p1,p) (h:K (s_Zt p0 p1)):w_Zt p0 p1 K := by
 unfold w_Zt
 unfold s_Zt at h
 exact ⟨rf,rf,rf,rfl,(lenOk_of 2 rfl (by decide)),h⟩
abbrev con_Zt:Con := ⟨P_Zt,R_Zt,fun x => pre_Zt x.1 x.2,fun x => s_Zt x.1 x.2⟩
theorem ok_Zt:ConOk Tryz.prog 143 con_Zt := okG k_Zt e_Zt hC_Zt fun x hx => tf_of (w_Zt_eq x.1 x.2 _) (d_Zt x.1 x.2 _ hx rfl)
theorem tx_within' {n lo hi:Int}:s_Z7 n lo hi = true ↔ lo≤n∧n≤hi := by unfold s_Z7; simp
theorem tx_range3 {x:Int×Int} (h:s_Zt x 1000000 = 0):(-1000000≤x.1∧x.1≤1000000)∧(-1000000≤x.2∧x.2≤1000000)∧x.1≤x.2 := by
 unfold s_Zt s_Zq at h
 rw [show IntKind.i64.wrap (0 - 1000000) = -1000000 from rfl] at h
 obtain ⟨h1,h⟩ := v_first0 h
 obtain ⟨h2,_⟩ := v_first0 h
 cases a:s_Z7 x.1 (-1000000) 1000000 <;> cases b:s_Z7 x.2 (-1000000) 1000000 <;> by_cases c:x.1≤x.2 <;> simp [s_Z6,a,b,c] at h1 h2
 exact ⟨tx_within'.1 a,tx_within'.1 b,c⟩
def C_Z4:Cons := [(88,[],con_Z7),(84,[],con_Z6),(83,[],con_Ze),(143,[],con_Zt)]
theorem hC_Z4:ConsOk Tryz.prog C_Z4 := cC ok_Z7 <| cC ok_Z6 <| cC ok_Ze <| cC ok_Zt <| ConsOk.nil
abbrev q0_Z4 (p0:tQA) (y1:Int) := (p0.2.getD y1.toNat (zz0,(zz0,(zz0,zz0))))
abbrev q1_Z4 (p0:tQA) (y1:Int) := ((s_Z6 ((q0_Z4 p0 y1).1 != (q0_Z4 p0 y1).2.1) (13:Int)) :: ((s_Zt (q0_Z4 p0 y1).2.2 (1000000:Int)) :: ([]:List Int)))
abbrev q2_Z4 (p0:tQA) := ((s_Z6 (s_Z7 p0.1 zz1 (8:Int)) zz2) :: ((s_Z6 (decide ((p0.2.length:Int)≤12)) (8:Int)) :: ([]:List Int)))
def w_Z4 (p0:tQA) (K:(Int×Int)→Prop):Prop := ((lenOk (q2_Z4 p0)) ∧(((((v_first (q2_Z4 p0)) != zz0)=true) →(K (zz0,(v_first (q2_Z4 p0))))) ∧((((v_first (q2_Z4 p0)) != zz0)=false) →(∃ n0,(loopP (fun (y1:Int) k2 => ((((decide (y1 < (p0.2.length:Int)))=true) →((zz0≤y1) ∧((y1 < (p0.2.length:Int)) ∧((((s_Z7 (q0_Z4 p0 y1).1 zz0 (wi (p0.1 - zz1)))=true) →((s_Z7 (q0_Z4 p0 y1).1 zz0 (wi (p0.1 - zz1)))=(s_Z7 (q0_Z4 p0 y1).1 zz0 (wi (p0.1 - zz1))))) ∧((((s_Z7 (q0_Z4 p0 y1).1 zz0 (wi (p0.1 - zz1)))=true) →((s_Z7 (q0_Z4 p0 y1).1 zz0 (wi (p0.1 - zz1)))=(s_Z7 (q0_Z4 p0 y1).1 zz0 (wi (p0.1 - zz1))))) ∧((((s_Z7 (q0_Z4 p0 y1).1 zz0 (wi (p0.1 - zz1)))=true) →((s_Z7 (q0_Z4 p0 y1).1 zz0 (wi (p0.1 - zz1)))=(s_Z7 (q0_Z4 p0 y1).1 zz0 (wi (p0.1 - zz1))))) ∧((((s_Z7 (q0_Z4 p0 y1).1 zz0 (wi (p0.1 - zz1)))=true) →((s_Z7 (q0_Z4 p0 y1).1 zz0 (wi (p0.1 - zz1)))=(s_Z7 (q0_Z4 p0 y1).1 zz0 (wi (p0.1 - zz1))))) ∧((((s_Z7 (q0_Z4 p0 y1).1 zz0 (wi (p0.1 - zz1)))=true) →((s_Z7 (q0_Z4 p0 y1).1 zz0 (wi (p0.1 - zz1)))=(s_Z7 (q0_Z4 p0 y1).1 zz0 (wi (p0.1 - zz1))))) ∧(((s_Z7 (q0_Z4 p0 y1).1 zz0 (wi (p0.1 - zz1)))=(s_Z7 (q0_Z4 p0 y1).1 zz0 (wi (p0.1 - zz1)))) ∧((lenOk ((s_Z6 (cond (s_Z7 (q0_Z4 p0 y1).1 zz0 (wi (p0.1 - zz1))) (s_Z7 (q0_Z4 p0 y1).2.1 zz0 (wi (p0.1 - zz1))) false) (6:Int)) :: (q1_Z4 p0 y1))) ∧(((((v_first ((s_Z6 (cond (s_Z7 (q0_Z4 p0 y1).1 zz0 (wi (p0.1 - zz1))) (s_Z7 (q0_Z4 p0 y1).2.1 zz0 (wi (p0.1 - zz1))) false) (6:Int)) :: (q1_Z4 p0 y1))) != zz0)=true) →(K (y1,(v_first ((s_Z6 (cond (s_Z7 (q0_Z4 p0 y1).1 zz0 (wi (p0.1 - zz1))) (s_Z7 (q0_Z4 p0 y1).2.1 zz0 (wi (p0.1 - zz1))) false) (6:Int)) :: (q1_Z4 p0 y1)))))) ∧((((v_first ((s_Z6 (cond (s_Z7 (q0_Z4 p0 y1).1 zz0 (wi (p0.1 - zz1))) (s_Z7 (q0_Z4 p0 y1).2.1 zz0 (wi (p0.1 - zz1))) false) (6:Int)) :: (q1_Z4 p0 y1))) != zz0)=false) →(k2 (wi (y1 + zz1))))))))))))))) ∧(((decide (y1 < (p0.2.length:Int)))=false) →(K (zz0,zz0))))) n0 zz0)))))
theorem w_Z4_eq (p0:tQA) (K:(Int×Int)→Prop):tfn F_Z4 A_Z4 C_Z4 P_Z4 R_Z4 p0 K = w_Z4 p0 K := by kernel_rfl
def st_Z4_0 (p0:tQA) (y1:Int):Int ⊕ (Int×Int) := (cond (decide (y1 < (p0.2.length:Int))) (cond ((v_first ((s_Z6 (cond (s_Z7 (p0.2.getD y1.toNat ((0:Int),((0:Int),(0,0)))).1 (0:Int) (IntKind.i64.wrap (p0.1 - 1))) (s_Z7 (p0.2.getD y1.toNat ((0:Int),((0:Int),(0,0)))).2.1 (0:Int) (IntKind.i64.wrap (p0.1 - 1))) false) (6:Int)) :: ((s_Z6 ((p0.2.getD y1.toNat ((0:Int),((0:Int),(0,0)))).1 != (p0.2.getD y1.toNat ((0:Int),((0:Int),(0,0)))).2.1) (13:Int)) :: ((s_Zt (p0.2.getD y1.toNat ((0:Int),((0:Int),(0,0)))).2.2 (1000000:Int)) :: ([]:List Int))))) != 0) (Sum.inr (y1,(v_first ((s_Z6 (cond (s_Z7 (p0.2.getD y1.toNat ((0:Int),((0:Int),(0,0)))).1 (0:Int) (IntKind.i64.wrap (p0.1 - 1))) (s_Z7 (p0.2.getD y1.toNat ((0:Int),((0:Int),(0,0)))).2.1 (0:Int) (IntKind.i64.wrap (p0.1 - 1))) false) (6:Int)) :: ((s_Z6 ((p0.2.getD y1.toNat ((0:Int),((0:Int),(0,0)))).1 != (p0.2.getD y1.toNat ((0:Int),((0:Int),(0,0)))).2.1) (13:Int)) :: ((s_Zt (p0.2.getD y1.toNat ((0:Int),((0:Int),(0,0)))).2.2 (1000000:Int)) :: ([]:List Int))))))) (Sum.inl (IntKind.i64.wrap (y1 + 1)))) (Sum.inr (0,0)))
abbrev sp_Z4_0 (p0:tQA) (y1:Int):List Prop := [(((decide (y1 < (p0.2.length:Int)))=true)→((0:Int)≤y1)),(((decide (y1 < (p0.2.length:Int)))=true)→(y1 < (p0.2.length:Int)))]
def s_Z4 (p0:tQA):(Int×Int) := (cond ((v_first ((s_Z6 (s_Z7 p0.1 (1:Int) (8:Int)) (2:Int)) :: ((s_Z6 (decide ((p0.2.length:Int)≤12)) (8:Int)) :: ([]:List Int)))) != 0) ((0:Int),(v_first ((s_Z6 (s_Z7 p0.1 (1:Int) (8:Int)) (2:Int)) :: ((s_Z6 (decide ((p0.2.length:Int)≤12)) (8:Int)) :: ([]:List Int))))) (lpv (0,0) (st_Z4_0 p0) (0:Int)))
abbrev pre_Z4 (p0:tQA):List Prop := [((((v_first ((s_Z6 (s_Z7 p0.1 (1:Int) (8:Int)) (2:Int)) :: ((s_Z6 (decide ((p0.2.length:Int)≤12)) (8:Int)) :: ([]:List Int)))) != 0)=false)→(OkL (st_Z4_0 p0) (sp_Z4_0 p0) (0:Int)))]
theorem d_Z4 (p0:tQA) (K:(Int×Int)→Prop) (hp:∀ p∈pre_Z4 p0,p) (h:K (s_Z4 p0)):w_Z4 p0 K := by
 unfold w_Z4
 unfold s_Z4 at h
 obtain ⟨hp0,_⟩ := conj_of hp
 exact ⟨(lenOk_of 2 rfl (by decide)),(br' h (fun e0 h => h)
  (fun e0 h => (loop_gen (hp0 e0) h (fun y1 k1 hp h => by
 unfold st_Z4_0 at h; obtain ⟨hp0,hp1,_⟩ := conj_of hp
 exact (br' h (fun e2 h => ⟨(hp0 e2),(hp1 e2),rf,rf,rf,rf,rf,rfl,(lenOk_of 3 rfl (by decide)),(br' h (fun e3 h => h)
  (fun e3 h => h))⟩)
  (fun e2 h => h))))))⟩
/-- The error of a tie,of a net without its ties,of a net. -/
def v_tierr (n:Int) (t:Int×Int×Int×Int):Int := v_first (s_Z6 (cond (s_Z7 t.1 0 (IntKind.i64.wrap (n - 1))) (s_Z7 t.2.1 0 (IntKind.i64.wrap (n - 1))) false) 6 :: s_Z6 (t.1 != t.2.1) 13 :: s_Zt t.2.2 1000000 :: [])
def v_neterr (p0:Int×List tQC):Int := v_first (s_Z6 (s_Z7 p0.1 1 8) 2 :: s_Z6 (decide ((p0.2.length:Int)≤12)) 8 :: [])
theorem l_Z4_0 (p0:Int×List tQC) (hl:lenOk p0.2):OkL (st_Z4_0 p0) (sp_Z4_0 p0) 0∧lpv ((0:Int),(0:Int)) (st_Z4_0 p0) 0 = v_scan (fun i t => cond (v_tierr p0.1 t != 0) (some (i,v_tierr p0.1 t)) none) ((0:Int),(0:Int)) 0 p0.2 := by
 refine scan_is p0.2 (0,0,0,0) (fun i t => cond (v_tierr p0.1 t != 0) (some (i,v_tierr p0.1 t)) none) ((0:Int),(0:Int)) hl ?_ ?_
 ·refine ⟨by simp only [sp_Z4_0,fM,decide_eq_true_eq]; simp,by simp [st_Z4_0]⟩
 ·intro j hj
  have hj' : (j:Int) < p0.2.length := by omega
  refine ⟨by simp only [sp_Z4_0,fM,decide_eq_true_eq,Int.toNat_natCast]; simp <;> omega,?_⟩
  simp only [st_Z4_0,hj',decide_true,Int.toNat_natCast,cond_true,wrap_nat (show (j:Int)≤9223372036854775806 by unfold lenOk at hl; omega)]
  generalize p0.2.getD j (0,0,0,0)=x
  show cond (v_tierr p0.1 x != 0) _ _ = _
  cases (v_tierr p0.1 x != 0) <;> rfl
def v_net (p0:Int×List tQC):Int×Int := cond (v_neterr p0 != 0) (0,v_neterr p0) (v_scan (fun i t => cond (v_tierr p0.1 t != 0) (some (i,v_tierr p0.1 t)) none) ((0:Int),(0:Int)) 0 p0.2)
theorem tx_neterr {p0:Int×List tQC} (h:v_neterr p0 = 0):(1≤p0.1∧p0.1≤8)∧p0.2.length≤12 := by
 obtain ⟨h1,h⟩ := v_first0 h
 obtain ⟨h2,_⟩ := v_first0 h
 have := of_decide_eq_true (tx_unless0' (by decide) h2)
 exact ⟨tx_within.1 (tx_unless0' (by decide) h1),by omega⟩
theorem tx_tierr {n:Int} {t:Int×Int×Int×Int} (hn:1≤n∧n≤8) (h:v_tierr n t = 0):(0≤t.1∧t.1 < n)∧(0≤t.2.1∧t.2.1 < n)∧t.1 ≠ t.2.1∧(-1000000≤t.2.2.1∧t.2.2.1≤1000000)∧(-1000000≤t.2.2.2∧t.2.2.2≤1000000)∧t.2.2.1≤t.2.2.2 := by
 obtain ⟨h1,h⟩ := v_first0 h
 obtain ⟨h2,h⟩ := v_first0 h
 obtain ⟨h3,_⟩ := v_first0 h
 rw [wrap_id (by omega) (by omega)] at h1
 obtain ⟨a1,a2⟩ := tx_andU (tx_unless0' (by decide) h1)
 have a3 := tx_unless0' (by decide) h2
 have a4 := tx_range3 h3
 have a1 := tx_within.1 a1
 have a2 := tx_within.1 a2
 exact ⟨by omega,by omega,by simpa using a3,a4⟩
theorem tx_net {p0:Int×List tQC} (h:(v_net p0).2 = 0):v_nokI p0.1 p0.2 := by
 unfold v_net at h
 cases hl:(v_neterr p0 != 0)
 ·rw [hl] at h
  obtain ⟨h1,h2⟩ := tx_neterr (bne0' hl)
  refine ⟨⟨by omega,by omega,h2,fun t ht => ?_⟩,by omega⟩
  have := v_scan_end (P := fun (r:gG) => r.2 = 0) p0.2 0 h (fun j x v _ hv => by
   cases hb:(v_tierr p0.1 x != 0) <;> rw [hb] at hv <;> simp only [cond_true,cond_false,sJ,reduceCtorEq] at hv
   subst hv; simpa using hb)
  obtain ⟨k,hk,rfl⟩ := List.mem_iff_getElem.1 ht
  have := this k hk
  cases hb:(v_tierr p0.1 p0.2[k] != 0)
  ·have := tx_tierr h1 (bne0' hb)
   rw [Int.toNat_of_nonneg (by omega)]
   exact this
  ·rw [hb] at this; cases this
 ·rw [hl] at h; simp only [cond_true] at h; rw [h] at hl; cases hl
abbrev t_Z4 (p0:Int×List tQC):Int×Int := v_net p0
abbrev qre_Z4 (_:Int×List tQC):List Prop := []
theorem pp_Z4 (p0:Int×List tQC) (_:∀ p∈qre_Z4 p0,p):∀ p∈pre_Z4 p0,p := by
 simp only [pre_Z4,fM]
 exact ⟨fun h => (l_Z4_0 p0 (lenOk_le (tx_neterr (bne0' h)).2 (by decide))).1,by simp⟩
theorem tt_Z4 (p0:Int×List tQC) (_:∀ p∈qre_Z4 p0,p):s_Z4 p0 = t_Z4 p0 := by
 show cond (v_neterr p0 != 0) (0,v_neterr p0) (lpv (0,0) (st_Z4_0 p0) 0)=v_net p0
 unfold v_net
 cases hl:(v_neterr p0 != 0)
 ·exact (l_Z4_0 p0 (lenOk_le (tx_neterr (bne0' hl)).2 (by decide))).2
 ·rfl

abbrev con_Z4:Con := ⟨P_Z4,R_Z4,fun x => qre_Z4 x,fun x => t_Z4 x⟩
theorem ok_Z4:ConOk Tryz.prog 77 con_Z4 := okG k_Z4 e_Z4 hC_Z4 fun x hx => tf_of (w_Z4_eq x _) (d_Z4 x _ (pp_Z4 x hx) (tt_Z4 x hx))
def C_Z2:Cons := [(75,[],con_Z1f),(76,[],con_Z5),(77,[],con_Z4)]
theorem hC_Z2:ConsOk Tryz.prog C_Z2 := cC ok_Z1f <| cC ok_Z5 <| cC ok_Z4 <| ConsOk.nil
abbrev q0_Z2 (p0:ByteArray) (y1:(Int×tQA)) := (v_gnp (8:Int) zz2 (v_ct (List.getD (v_spl p0 (⟨#[59]⟩ : ByteArray)) y1.1.toNat (⟨#[]⟩ : ByteArray)) (32:Int)))
abbrev q1_Z2 (p0:ByteArray) (y1:(Int×tQA)) := (((List.getD (q0_Z2 p0 y1).1 (Int.toNat zz0) zz0),((List.getD (q0_Z2 p0 y1).1 (Int.toNat zz1) zz0),((List.getD (q0_Z2 p0 y1).1 (Int.toNat zz2) zz0),(List.getD (q0_Z2 p0 y1).1 (Int.toNat zz3) zz0)))) :: ([]:List tQB))
abbrev q2_Z2 (p0:ByteArray) (y1:(Int×tQA)) := (cond (q0_Z2 p0 y1).2 (decide (y1.1 > zz0)) false)
def w_Z2 (p0:ByteArray) (K:(tQA×Int)→Prop):Prop := ((((decide ((((ByteArray.size p0):Nat):Int) > 60000))=true) →(K ((zz0,([]:List tQB)),(8:Int)))) ∧(((decide ((((ByteArray.size p0):Nat):Int) > 60000))=false) →(((ByteArray.size p0) < 4294967281) ∧((1≤(ByteArray.size (⟨#[59]⟩ : ByteArray))) ∧(∃ n0,(loopP (fun (y1:(Int×tQA)) k2 => ((((decide (y1.1 < (((v_spl p0 (⟨#[59]⟩ : ByteArray)).length:Nat):Int)))=true) →((zz0≤y1.1) ∧((y1.1 < (((v_spl p0 (⟨#[59]⟩ : ByteArray)).length:Nat):Int)) ∧(((ByteArray.size (List.getD (v_spl p0 (⟨#[59]⟩ : ByteArray)) y1.1.toNat (⟨#[]⟩ : ByteArray)))≤1000000) ∧(((8:Int)≤16) ∧((((q0_Z2 p0 y1).2 = true) →((q0_Z2 p0 y1).2 = (q0_Z2 p0 y1).2)) ∧(((q0_Z2 p0 y1).2 = (q0_Z2 p0 y1).2) ∧((((cond (q0_Z2 p0 y1).2 (y1.1 == zz0) false)=true) →((cond (q0_Z2 p0 y1).2 (y1.1 == zz0) false)=(cond (q0_Z2 p0 y1).2 (y1.1 == zz0) false))) ∧((((cond (q0_Z2 p0 y1).2 (y1.1 == zz0) false)=true) →((cond (q0_Z2 p0 y1).2 (y1.1 == zz0) false)=(cond (q0_Z2 p0 y1).2 (y1.1 == zz0) false))) ∧(((cond (q0_Z2 p0 y1).2 (y1.1 == zz0) false)=(cond (q0_Z2 p0 y1).2 (y1.1 == zz0) false)) ∧((((cond (cond (q0_Z2 p0 y1).2 (y1.1 == zz0) false) ((((q0_Z2 p0 y1).1.length:Nat):Int) == zz1) false)=true) →((zz0 < (((q0_Z2 p0 y1).1.length:Nat):Int)) ∧(k2 ((wi (y1.1 + zz1)),((List.getD (q0_Z2 p0 y1).1 (Int.toNat zz0) zz0),y1.2.2))))) ∧(((cond (cond (q0_Z2 p0 y1).2 (y1.1 == zz0) false) ((((q0_Z2 p0 y1).1.length:Nat):Int) == zz1) false)=false) →((((q0_Z2 p0 y1).2 = true) →((q0_Z2 p0 y1).2 = (q0_Z2 p0 y1).2)) ∧(((q0_Z2 p0 y1).2 = (q0_Z2 p0 y1).2) ∧((((q2_Z2 p0 y1)=true) →((q2_Z2 p0 y1)=(q2_Z2 p0 y1))) ∧((((q2_Z2 p0 y1)=true) →((q2_Z2 p0 y1)=(q2_Z2 p0 y1))) ∧(((q2_Z2 p0 y1)=(q2_Z2 p0 y1)) ∧((((cond (q2_Z2 p0 y1) ((((q0_Z2 p0 y1).1.length:Nat):Int) == 4) false)=true) →((zz0 < (((q0_Z2 p0 y1).1.length:Nat):Int)) ∧((zz1 < (((q0_Z2 p0 y1).1.length:Nat):Int)) ∧((zz2 < (((q0_Z2 p0 y1).1.length:Nat):Int)) ∧((zz3 < (((q0_Z2 p0 y1).1.length:Nat):Int)) ∧((((y1.2.2.length + (List.length (q1_Z2 p0 y1))) * 32)≤140737488355328) ∧(k2 ((wi (y1.1 + zz1)),(y1.2.1,(y1.2.2 ++ (q1_Z2 p0 y1))))))))))) ∧(((cond (q2_Z2 p0 y1) ((((q0_Z2 p0 y1).1.length:Nat):Int) == 4) false)=false) →(K ((zz0,([]:List tQB)),(7:Int)))))))))))))))))))))) ∧(((decide (y1.1 < (((v_spl p0 (⟨#[59]⟩ : ByteArray)).length:Nat):Int)))=false) →(((((v_net y1.2).2 != zz0)=true) →(K ((zz0,([]:List tQB)),(v_net y1.2).2))) ∧((((v_net y1.2).2 != zz0)=false) →(K (y1.2,zz0))))))) n0 (zz0,(zz0,([]:List tQB)))))))))
theorem w_Z2_eq (p0:ByteArray) (K:(tQA×Int)→Prop):tfn F_Z2 A_Z2 C_Z2 P_Z2 R_Z2 p0 K = w_Z2 p0 K := by kernel_rfl
def st_Z2_0 (p0:ByteArray) (y1:(Int×tQA)):(Int×tQA) ⊕ (tQA×Int) := (cond (decide (y1.1 < (((v_spl p0 (⟨#[59]⟩ : ByteArray)).length:Nat):Int))) (cond (cond (cond (v_gnp (8:Int) (2:Int) (v_ct (List.getD (v_spl p0 (⟨#[59]⟩ : ByteArray)) y1.1.toNat (⟨#[]⟩ : ByteArray)) (32:Int))).2 (y1.1 == 0) false) ((((List.length (v_gnp (8:Int) (2:Int) (v_ct (List.getD (v_spl p0 (⟨#[59]⟩ : ByteArray)) y1.1.toNat (⟨#[]⟩ : ByteArray)) (32:Int))).1):Nat):Int) == 1) false) (Sum.inl ((IntKind.i64.wrap (y1.1 + 1)),((List.getD (v_gnp (8:Int) (2:Int) (v_ct (List.getD (v_spl p0 (⟨#[59]⟩ : ByteArray)) y1.1.toNat (⟨#[]⟩ : ByteArray)) (32:Int))).1 (Int.toNat (0:Int)) (0:Int)),y1.2.2))) (cond (cond (cond (v_gnp (8:Int) (2:Int) (v_ct (List.getD (v_spl p0 (⟨#[59]⟩ : ByteArray)) y1.1.toNat (⟨#[]⟩ : ByteArray)) (32:Int))).2 (decide (y1.1 > 0)) false) ((((List.length (v_gnp (8:Int) (2:Int) (v_ct (List.getD (v_spl p0 (⟨#[59]⟩ : ByteArray)) y1.1.toNat (⟨#[]⟩ : ByteArray)) (32:Int))).1):Nat):Int) == 4) false) (Sum.inl ((IntKind.i64.wrap (y1.1 + 1)),(y1.2.1,(y1.2.2 ++ (((List.getD (v_gnp (8:Int) (2:Int) (v_ct (List.getD (v_spl p0 (⟨#[59]⟩ : ByteArray)) y1.1.toNat (⟨#[]⟩ : ByteArray)) (32:Int))).1 (Int.toNat (0:Int)) (0:Int)),((List.getD (v_gnp (8:Int) (2:Int) (v_ct (List.getD (v_spl p0 (⟨#[59]⟩ : ByteArray)) y1.1.toNat (⟨#[]⟩ : ByteArray)) (32:Int))).1 (Int.toNat (1:Int)) (0:Int)),((List.getD (v_gnp (8:Int) (2:Int) (v_ct (List.getD (v_spl p0 (⟨#[59]⟩ : ByteArray)) y1.1.toNat (⟨#[]⟩ : ByteArray)) (32:Int))).1 (Int.toNat (2:Int)) (0:Int)),(List.getD (v_gnp (8:Int) (2:Int) (v_ct (List.getD (v_spl p0 (⟨#[59]⟩ : ByteArray)) y1.1.toNat (⟨#[]⟩ : ByteArray)) (32:Int))).1 (Int.toNat (3:Int)) (0:Int))))) :: ([]:List tQB)))))) (Sum.inr (((0:Int),([]:List tQB)),(7:Int))))) (cond ((v_net y1.2).2 != 0) (Sum.inr (((0:Int),([]:List tQB)),(v_net y1.2).2)) (Sum.inr (y1.2,(0:Int)))))
abbrev sp_Z2_0 (p0:ByteArray) (y1:(Int×tQA)):List Prop := [(((decide (y1.1 < (((v_spl p0 (⟨#[59]⟩ : ByteArray)).length:Nat):Int)))=true)→((0:Int)≤y1.1)),(((decide (y1.1 < (((v_spl p0 (⟨#[59]⟩ : ByteArray)).length:Nat):Int)))=true)→(y1.1 < (((v_spl p0 (⟨#[59]⟩ : ByteArray)).length:Nat):Int))),(((decide (y1.1 < (((v_spl p0 (⟨#[59]⟩ : ByteArray)).length:Nat):Int)))=true)→((ByteArray.size (List.getD (v_spl p0 (⟨#[59]⟩ : ByteArray)) y1.1.toNat (⟨#[]⟩ : ByteArray)))≤1000000)),(((decide (y1.1 < (((v_spl p0 (⟨#[59]⟩ : ByteArray)).length:Nat):Int)))=true)→(((cond (cond (v_gnp (8:Int) (2:Int) (v_ct (List.getD (v_spl p0 (⟨#[59]⟩ : ByteArray)) y1.1.toNat (⟨#[]⟩ : ByteArray)) (32:Int))).2 (y1.1 == 0) false) ((((List.length (v_gnp (8:Int) (2:Int) (v_ct (List.getD (v_spl p0 (⟨#[59]⟩ : ByteArray)) y1.1.toNat (⟨#[]⟩ : ByteArray)) (32:Int))).1):Nat):Int) == 1) false)=true)→((0:Int) < (((List.length (v_gnp (8:Int) (2:Int) (v_ct (List.getD (v_spl p0 (⟨#[59]⟩ : ByteArray)) y1.1.toNat (⟨#[]⟩ : ByteArray)) (32:Int))).1):Nat):Int)))),(((decide (y1.1 < (((v_spl p0 (⟨#[59]⟩ : ByteArray)).length:Nat):Int)))=true)→(((cond (cond (v_gnp (8:Int) (2:Int) (v_ct (List.getD (v_spl p0 (⟨#[59]⟩ : ByteArray)) y1.1.toNat (⟨#[]⟩ : ByteArray)) (32:Int))).2 (y1.1 == 0) false) ((((List.length (v_gnp (8:Int) (2:Int) (v_ct (List.getD (v_spl p0 (⟨#[59]⟩ : ByteArray)) y1.1.toNat (⟨#[]⟩ : ByteArray)) (32:Int))).1):Nat):Int) == 1) false)=false)→(((cond (cond (v_gnp (8:Int) (2:Int) (v_ct (List.getD (v_spl p0 (⟨#[59]⟩ : ByteArray)) y1.1.toNat (⟨#[]⟩ : ByteArray)) (32:Int))).2 (decide (y1.1 > 0)) false) ((((List.length (v_gnp (8:Int) (2:Int) (v_ct (List.getD (v_spl p0 (⟨#[59]⟩ : ByteArray)) y1.1.toNat (⟨#[]⟩ : ByteArray)) (32:Int))).1):Nat):Int) == 4) false)=true)→((0:Int) < (((List.length (v_gnp (8:Int) (2:Int) (v_ct (List.getD (v_spl p0 (⟨#[59]⟩ : ByteArray)) y1.1.toNat (⟨#[]⟩ : ByteArray)) (32:Int))).1):Nat):Int))))),(((decide (y1.1 < (((v_spl p0 (⟨#[59]⟩ : ByteArray)).length:Nat):Int)))=true)→(((cond (cond (v_gnp (8:Int) (2:Int) (v_ct (List.getD (v_spl p0 (⟨#[59]⟩ : ByteArray)) y1.1.toNat (⟨#[]⟩ : ByteArray)) (32:Int))).2 (y1.1 == 0) false) ((((List.length (v_gnp (8:Int) (2:Int) (v_ct (List.getD (v_spl p0 (⟨#[59]⟩ : ByteArray)) y1.1.toNat (⟨#[]⟩ : ByteArray)) (32:Int))).1):Nat):Int) == 1) false)=false)→(((cond (cond (v_gnp (8:Int) (2:Int) (v_ct (List.getD (v_spl p0 (⟨#[59]⟩ : ByteArray)) y1.1.toNat (⟨#[]⟩ : ByteArray)) (32:Int))).2 (decide (y1.1 > 0)) false) ((((List.length (v_gnp (8:Int) (2:Int) (v_ct (List.getD (v_spl p0 (⟨#[59]⟩ : ByteArray)) y1.1.toNat (⟨#[]⟩ : ByteArray)) (32:Int))).1):Nat):Int) == 4) false)=true)→((1:Int) < (((List.length (v_gnp (8:Int) (2:Int) (v_ct (List.getD (v_spl p0 (⟨#[59]⟩ : ByteArray)) y1.1.toNat (⟨#[]⟩ : ByteArray)) (32:Int))).1):Nat):Int))))),(((decide (y1.1 < (((v_spl p0 (⟨#[59]⟩ : ByteArray)).length:Nat):Int)))=true)→(((cond (cond (v_gnp (8:Int) (2:Int) (v_ct (List.getD (v_spl p0 (⟨#[59]⟩ : ByteArray)) y1.1.toNat (⟨#[]⟩ : ByteArray)) (32:Int))).2 (y1.1 == 0) false) ((((List.length (v_gnp (8:Int) (2:Int) (v_ct (List.getD (v_spl p0 (⟨#[59]⟩ : ByteArray)) y1.1.toNat (⟨#[]⟩ : ByteArray)) (32:Int))).1):Nat):Int) == 1) false)=false)→(((cond (cond (v_gnp (8:Int) (2:Int) (v_ct (List.getD (v_spl p0 (⟨#[59]⟩ : ByteArray)) y1.1.toNat (⟨#[]⟩ : ByteArray)) (32:Int))).2 (decide (y1.1 > 0)) false) ((((List.length (v_gnp (8:Int) (2:Int) (v_ct (List.getD (v_spl p0 (⟨#[59]⟩ : ByteArray)) y1.1.toNat (⟨#[]⟩ : ByteArray)) (32:Int))).1):Nat):Int) == 4) false)=true)→((2:Int) < (((List.length (v_gnp (8:Int) (2:Int) (v_ct (List.getD (v_spl p0 (⟨#[59]⟩ : ByteArray)) y1.1.toNat (⟨#[]⟩ : ByteArray)) (32:Int))).1):Nat):Int))))),(((decide (y1.1 < (((v_spl p0 (⟨#[59]⟩ : ByteArray)).length:Nat):Int)))=true)→(((cond (cond (v_gnp (8:Int) (2:Int) (v_ct (List.getD (v_spl p0 (⟨#[59]⟩ : ByteArray)) y1.1.toNat (⟨#[]⟩ : ByteArray)) (32:Int))).2 (y1.1 == 0) false) ((((List.length (v_gnp (8:Int) (2:Int) (v_ct (List.getD (v_spl p0 (⟨#[59]⟩ : ByteArray)) y1.1.toNat (⟨#[]⟩ : ByteArray)) (32:Int))).1):Nat):Int) == 1) false)=false)→(((cond (cond (v_gnp (8:Int) (2:Int) (v_ct (List.getD (v_spl p0 (⟨#[59]⟩ : ByteArray)) y1.1.toNat (⟨#[]⟩ : ByteArray)) (32:Int))).2 (decide (y1.1 > 0)) false) ((((List.length (v_gnp (8:Int) (2:Int) (v_ct (List.getD (v_spl p0 (⟨#[59]⟩ : ByteArray)) y1.1.toNat (⟨#[]⟩ : ByteArray)) (32:Int))).1):Nat):Int) == 4) false)=true)→((3:Int) < (((List.length (v_gnp (8:Int) (2:Int) (v_ct (List.getD (v_spl p0 (⟨#[59]⟩ : ByteArray)) y1.1.toNat (⟨#[]⟩ : ByteArray)) (32:Int))).1):Nat):Int))))),(((decide (y1.1 < (((v_spl p0 (⟨#[59]⟩ : ByteArray)).length:Nat):Int)))=true)→(((cond (cond (v_gnp (8:Int) (2:Int) (v_ct (List.getD (v_spl p0 (⟨#[59]⟩ : ByteArray)) y1.1.toNat (⟨#[]⟩ : ByteArray)) (32:Int))).2 (y1.1 == 0) false) ((((List.length (v_gnp (8:Int) (2:Int) (v_ct (List.getD (v_spl p0 (⟨#[59]⟩ : ByteArray)) y1.1.toNat (⟨#[]⟩ : ByteArray)) (32:Int))).1):Nat):Int) == 1) false)=false)→(((cond (cond (v_gnp (8:Int) (2:Int) (v_ct (List.getD (v_spl p0 (⟨#[59]⟩ : ByteArray)) y1.1.toNat (⟨#[]⟩ : ByteArray)) (32:Int))).2 (decide (y1.1 > 0)) false) ((((List.length (v_gnp (8:Int) (2:Int) (v_ct (List.getD (v_spl p0 (⟨#[59]⟩ : ByteArray)) y1.1.toNat (⟨#[]⟩ : ByteArray)) (32:Int))).1):Nat):Int) == 4) false)=true)→(((y1.2.2.length + (List.length (((List.getD (v_gnp (8:Int) (2:Int) (v_ct (List.getD (v_spl p0 (⟨#[59]⟩ : ByteArray)) y1.1.toNat (⟨#[]⟩ : ByteArray)) (32:Int))).1 (Int.toNat (0:Int)) (0:Int)),((List.getD (v_gnp (8:Int) (2:Int) (v_ct (List.getD (v_spl p0 (⟨#[59]⟩ : ByteArray)) y1.1.toNat (⟨#[]⟩ : ByteArray)) (32:Int))).1 (Int.toNat (1:Int)) (0:Int)),((List.getD (v_gnp (8:Int) (2:Int) (v_ct (List.getD (v_spl p0 (⟨#[59]⟩ : ByteArray)) y1.1.toNat (⟨#[]⟩ : ByteArray)) (32:Int))).1 (Int.toNat (2:Int)) (0:Int)),(List.getD (v_gnp (8:Int) (2:Int) (v_ct (List.getD (v_spl p0 (⟨#[59]⟩ : ByteArray)) y1.1.toNat (⟨#[]⟩ : ByteArray)) (32:Int))).1 (Int.toNat (3:Int)) (0:Int))))) :: ([]:List tQB)))) * 32)≤140737488355328))))]
def s_Z2 (p0:ByteArray):(tQA×Int) := (cond (decide ((((ByteArray.size p0):Nat):Int) > 60000)) (((0:Int),([]:List tQB)),(8:Int)) (lpv (((0:Int),[]),(0:Int)) (st_Z2_0 p0) ((0:Int),((0:Int),([]:List tQB)))))
abbrev pre_Z2 (p0:ByteArray):List Prop := [(((decide ((((ByteArray.size p0):Nat):Int) > 60000))=false)→((ByteArray.size p0) < 4294967281)),(((decide ((((ByteArray.size p0):Nat):Int) > 60000))=false)→(1≤(ByteArray.size (⟨#[59]⟩ : ByteArray)))),(((decide ((((ByteArray.size p0):Nat):Int) > 60000))=false)→(OkL (st_Z2_0 p0) (sp_Z2_0 p0) ((0:Int),((0:Int),([]:List tQB)))))]
theorem d_Z2 (p0:ByteArray) (K:(tQA×Int)→Prop) (hp:∀ p∈pre_Z2 p0,p) (h:K (s_Z2 p0)):w_Z2 p0 K := by
 unfold w_Z2
 unfold s_Z2 at h
 obtain ⟨hp0,hp1,hp2,_⟩ := conj_of hp
 exact (br' h (fun e0 h => h)
  (fun e0 h => ⟨(hp0 e0),(hp1 e0),(loop_gen (hp2 e0) h (fun y1 k1 hp h => by
 unfold st_Z2_0 at h; obtain ⟨hp0,hp1,hp2,hp3,hp4,hp5,hp6,hp7,hp8,_⟩ := conj_of hp
 exact (br' h (fun e2 h => ⟨(hp0 e2),(hp1 e2),(hp2 e2),(od rfl),rf,rfl,rf,rf,rfl,(br' h (fun e3 h => ⟨(hp3 e2 e3),h⟩)
  (fun e3 h => ⟨rf,rfl,rf,rf,rfl,(br' h (fun e4 h => ⟨(hp4 e2 e3 e4),(hp5 e2 e3 e4),(hp6 e2 e3 e4),(hp7 e2 e3 e4),(hp8 e2 e3 e4),h⟩)
  (fun e4 h => h))⟩))⟩)
  (fun e2 h => (br' h (fun e5 h => h)
  (fun e5 h => h))))))⟩))
theorem tx_spl (p0:ByteArray):v_spl p0 (⟨#[59]⟩ : ByteArray)=v_ct p0 59 := v_spl_ct p0 59
theorem tx_c1 {a b c:Bool} (h:cond (cond a b false) c false = true):c = true := by cases a <;> cases b <;> cases c <;> first | rfl | cases h
theorem l_Z2_0 (p0:ByteArray) (hs:p0.size≤60000):OkL (st_Z2_0 p0) (sp_Z2_0 p0) (0,(0,[]))∧lpv ((0,[]),0) (st_Z2_0 p0) (0,(0,[]))=v_go v_pnf (v_pne (fun n => (v_net n).2)) 0 (0,[]) (v_ct p0 59) := by
 have hc := v_ct_len p0 59
 have hr := pn_is (e := (fun n => (v_net n).2)) (l := v_ct p0 59) (dd := ((0,[]),0)) (st := st_Z2_0 p0) (sp := sp_Z2_0 p0) (by omega) (fun z hz => Nat.le_trans (v_ct_mem hz) hs) (fun y hy => ?_) (fun y h0 hy => ?_) (fun j t hj ht hz => ?_) 0 (Nat.zero_le _) (0,[]) (Nat.le_refl _)
 ·exact hr
 ·unfold st_Z2_0 v_pne
  rw [tx_spl,decide_eq_false hy,cond_false]
  dsimp only
  cases ((v_net y.2).2 != 0) <;> rfl
 ·obtain ⟨i,t⟩ := y
  unfold st_Z2_0
  rw [tx_spl,decide_eq_true hy,cond_true]
  obtain ⟨w,hw⟩ : ∃ w,(v_ct p0 59).getD i.toNat (⟨#[]⟩ : ByteArray)=w := ⟨_,rfl⟩
  simp only [hw]
  rcases Int.lt_or_eq_of_le h0 with hi | hi
  ·rw [v_pnf_1 (by exact hi)]
   dsimp only at hi
   rw [show (i == 0)=false from beq_false_of_ne (by omega),decide_eq_true (show i > 0 by omega)]
   generalize v_gnp 8 2 (v_ct w 32)=G
   obtain ⟨g,b⟩ := G
   dsimp only
   cases b
   ·rfl
   ·cases ((g.length:Int) == 4) <;> rfl
  ·dsimp only at hi
   subst hi
   rw [v_pnf_0]
   generalize v_gnp 8 2 (v_ct w 32)=G
   obtain ⟨g,b⟩ := G
   dsimp only
   cases b
   ·rfl
   ·cases ((g.length:Int) == 1) <;> rfl
 ·unfold sp_Z2_0
  simp only [fM,Int.toNat_natCast,tx_spl]
  obtain ⟨w,hw⟩ : ∃ w,(v_ct p0 59).getD j (⟨#[]⟩ : ByteArray)=w := ⟨_,rfl⟩
  rw [hw] at hz
  simp only [hw]
  have hg := v_gnp_len 8 2 (v_ct w 32)
  have hw2 := v_ct_len w 32
  generalize v_gnp 8 2 (v_ct w 32)=G at hg ⊢
  have k1:∀ {a b:Bool},cond (cond a b false) ((G.1.length:Int) == 1) false = true→G.1.length = 1 := fun h => by
   have:(G.1.length:Int)=1 := by simpa using tx_c1 h
   omega
  have k4:∀ {a b:Bool},cond (cond a b false) ((G.1.length:Int) == 4) false = true→G.1.length = 4 := fun h => by
   have:(G.1.length:Int)=4 := by simpa using tx_c1 h
   omega
  and_intros
  all_goals first | (intros; omega) | (intro h; exact of_decide_eq_true h) | (intro _; decide) | (intro _ h; have := k1 h; omega) | (intro _ _ h; have := k4 h; omega) | (intros; simp only [List.length_cons,List.length_nil]; omega) | (simp; done)
abbrev t_Z2 (p0:ByteArray):(Int×List T4)×Int := v_pnet (fun n => (v_net n).2) p0
abbrev qre_Z2 (_p0:ByteArray):List Prop := []
theorem pp_Z2 (p0:ByteArray) (_hq:∀ p∈qre_Z2 p0,p):∀ p∈pre_Z2 p0,p := by
 have hs:decide ((p0.size:Int) > 60000)=false→p0.size≤60000 := fun h => by have := of_decide_eq_false h; omega
 simp only [pre_Z2,fM]
 exact ⟨fun h => by have := hs h; omega,fun _ => by decide,fun h => (l_Z2_0 p0 (hs h)).1,by simp⟩
theorem tt_Z2 (p0:ByteArray) (_hq:∀ p∈qre_Z2 p0,p):s_Z2 p0 = t_Z2 p0 := by
 unfold s_Z2 t_Z2 v_pnet
 cases h:decide ((p0.size:Int) > 60000) with
 | true => rfl
 | false => rw [(l_Z2_0 p0 (by have := of_decide_eq_false h; omega)).2]

abbrev con_Z2:Con := ⟨P_Z2,R_Z2,fun x => qre_Z2 x,fun x => t_Z2 x⟩
theorem ok_Z2:ConOk Tryz.prog 10 con_Z2 := okG k_Z2 e_Z2 hC_Z2 fun x hx => tf_of (w_Z2_eq x _) (d_Z2 x _ (pp_Z2 x hx) (tt_Z2 x hx))
def C_Zo:Cons := []
theorem hC_Zo:ConsOk Tryz.prog C_Zo := ConsOk.nil
def w_Zo (p0:ByteArray) (p1:Int) (K:(List ByteArray)→Prop):Prop := (∃ n0,(loopP (fun (y1:(Int×(Int×(List ByteArray)))) k2 => ((((decide (y1.1 < (((ByteArray.size p0):Nat):Int)))=true) →((zz0≤y1.1) ∧((y1.1 < (((ByteArray.size p0):Nat):Int)) ∧(((((v_six p0 y1.1) == p1)=true) →((zz0≤y1.2.1) ∧((y1.2.1≤y1.1) ∧((y1.1≤(((ByteArray.size p0):Nat):Int)) ∧((((y1.2.2.length + (List.length ((v_ssub p0 y1.2.1 y1.1) :: ([]:List ByteArray)))) * 16)≤140737488355328) ∧(k2 ((IntKind.i64.wrap (y1.1 + 1)),((IntKind.i64.wrap (y1.1 + 1)),(y1.2.2 ++ ((v_ssub p0 y1.2.1 y1.1) :: ([]:List ByteArray))))))))))) ∧((((v_six p0 y1.1) == p1)=false) →(k2 ((IntKind.i64.wrap (y1.1 + 1)),y1.2))))))) ∧(((decide (y1.1 < (((ByteArray.size p0):Nat):Int)))=false) →((zz0≤y1.2.1) ∧((y1.2.1≤(((ByteArray.size p0):Nat):Int)) ∧((((y1.2.2.length + (List.length ((v_ssub p0 y1.2.1 (((ByteArray.size p0):Nat):Int)) :: ([]:List ByteArray)))) * 16)≤140737488355328) ∧(K (y1.2.2 ++ ((v_ssub p0 y1.2.1 (((ByteArray.size p0):Nat):Int)) :: ([]:List ByteArray)))))))))) n0 (zz0,(zz0,([]:List ByteArray)))))
theorem w_Zo_eq (p0:ByteArray) (p1:Int) (K:(List ByteArray)→Prop):tfn F_Zo A_Zo C_Zo P_Zo R_Zo (p0,p1) K = w_Zo p0 p1 K := by kernel_rfl
def st_Zo_0 (p0:ByteArray) (p1:Int) (y0:(Int×(Int×(List ByteArray)))):(Int×(Int×(List ByteArray))) ⊕ (List ByteArray) := (cond (decide (y0.1 < (((ByteArray.size p0):Nat):Int))) (cond ((v_six p0 y0.1) == p1) (Sum.inl ((IntKind.i64.wrap (y0.1 + 1)),((IntKind.i64.wrap (y0.1 + 1)),(y0.2.2 ++ ((v_ssub p0 y0.2.1 y0.1) :: ([]:List ByteArray)))))) (Sum.inl ((IntKind.i64.wrap (y0.1 + 1)),y0.2))) (Sum.inr (y0.2.2 ++ ((v_ssub p0 y0.2.1 (((ByteArray.size p0):Nat):Int)) :: ([]:List ByteArray)))))
abbrev sp_Zo_0 (p0:ByteArray) (p1:Int) (y0:(Int×(Int×(List ByteArray)))):List Prop := [(((decide (y0.1 < (((ByteArray.size p0):Nat):Int)))=true)→((0:Int)≤y0.1)),(((decide (y0.1 < (((ByteArray.size p0):Nat):Int)))=true)→(y0.1 < (((ByteArray.size p0):Nat):Int))),(((decide (y0.1 < (((ByteArray.size p0):Nat):Int)))=true)→((((v_six p0 y0.1) == p1)=true)→((0:Int)≤y0.2.1))),(((decide (y0.1 < (((ByteArray.size p0):Nat):Int)))=true)→((((v_six p0 y0.1) == p1)=true)→(y0.2.1≤y0.1))),(((decide (y0.1 < (((ByteArray.size p0):Nat):Int)))=true)→((((v_six p0 y0.1) == p1)=true)→(y0.1≤(((ByteArray.size p0):Nat):Int)))),(((decide (y0.1 < (((ByteArray.size p0):Nat):Int)))=true)→((((v_six p0 y0.1) == p1)=true)→(((y0.2.2.length + (List.length ((v_ssub p0 y0.2.1 y0.1) :: ([]:List ByteArray)))) * 16)≤140737488355328))),(((decide (y0.1 < (((ByteArray.size p0):Nat):Int)))=false)→((0:Int)≤y0.2.1)),(((decide (y0.1 < (((ByteArray.size p0):Nat):Int)))=false)→(y0.2.1≤(((ByteArray.size p0):Nat):Int))),(((decide (y0.1 < (((ByteArray.size p0):Nat):Int)))=false)→(((y0.2.2.length + (List.length ((v_ssub p0 y0.2.1 (((ByteArray.size p0):Nat):Int)) :: ([]:List ByteArray)))) * 16)≤140737488355328))]
def s_Zo (p0:ByteArray) (p1:Int):(List ByteArray) := (lpv [] (st_Zo_0 p0 p1) ((0:Int),((0:Int),([]:List ByteArray))))
abbrev pre_Zo (p0:ByteArray) (p1:Int):List Prop := [(OkL (st_Zo_0 p0 p1) (sp_Zo_0 p0 p1) ((0:Int),((0:Int),([]:List ByteArray))))]
theorem d_Zo (p0:ByteArray) (p1:Int) (K:(List ByteArray)→Prop) (hp:∀ p∈pre_Zo p0 p1,p) (h:K (s_Zo p0 p1)):w_Zo p0 p1 K := by
 unfold w_Zo
 unfold s_Zo at h
 obtain ⟨hp0,_⟩ := conj_of hp
 exact (loop_gen (hp0) h (fun y0 k0 hp h => by
 unfold st_Zo_0 at h; obtain ⟨hp0,hp1,hp2,hp3,hp4,hp5,hp6,hp7,hp8,_⟩ := conj_of hp
 exact (br' h (fun e1 h => ⟨(hp0 e1),(hp1 e1),(br' h (fun e2 h => ⟨(hp2 e1 e2),(hp3 e1 e2),(hp4 e1 e2),(hp5 e1 e2),h⟩)
  (fun e2 h => h))⟩)
  (fun e1 h => ⟨(hp6 e1),(hp7 e1),(hp8 e1),h⟩))))
theorem l_Zo_0 (p0:ByteArray) (p1:Int) (h0:0≤p1) (h1:p1 < 256) (hs:p0.size≤1000000):OkL (st_Zo_0 p0 p1) (sp_Zo_0 p0 p1) (0,(0,[]))∧lpv [] (st_Zo_0 p0 p1) (0,(0,[]))=v_ct p0 p1 := by
 refine cut_is h0 h1 hs (fun y => by unfold st_Zo_0; rfl) (fun y hy => ?_)
 obtain ⟨a1,a2,a3,a4,a5⟩ := hy
 unfold sp_Zo_0
 simp only [fM,decide_eq_true_eq,decide_eq_false_iff_not,List.length_cons,List.length_nil]
 and_intros
 all_goals first | (intros; omega) | (simp; done)
abbrev t_Zo (p0:ByteArray) (p1:Int):List ByteArray := v_ct p0 p1
abbrev qre_Zo (p0:ByteArray) (p1:Int):List Prop := [0≤p1,p1 < 256,p0.size≤1000000]
theorem pp_Zo (p0:ByteArray) (p1:Int) (hq:∀ p∈qre_Zo p0 p1,p):∀ p∈pre_Zo p0 p1,p := by
 obtain ⟨h1,h2,h3,_⟩ := conj_of hq
 simp only [pre_Zo,fM]
 exact ⟨(l_Zo_0 p0 p1 h1 h2 h3).1,by simp⟩
theorem tt_Zo (p0:ByteArray) (p1:Int) (hq:∀ p∈qre_Zo p0 p1,p):s_Zo p0 p1 = t_Zo p0 p1 := by
 obtain ⟨h1,h2,h3,_⟩ := conj_of hq
 exact (l_Zo_0 p0 p1 h1 h2 h3).2

abbrev con_Zo:Con := ⟨P_Zo,R_Zo,fun x => qre_Zo x.1 x.2,fun x => t_Zo x.1 x.2⟩
theorem ok_Zo:ConOk Tryz.prog 100 con_Zo := okG k_Zo e_Zo hC_Zo fun x hx => tf_of (w_Zo_eq x.1 x.2 _) (d_Zo x.1 x.2 _ (pp_Zo x.1 x.2 hx) (tt_Zo x.1 x.2 hx))
def C_Za:Cons := []
theorem hC_Za:ConsOk Tryz.prog C_Za := ConsOk.nil
def w_Za (p0:Int) (p1:Int) (p2:Int) (K:Bool→Prop):Prop := ((((decide (p1≤p0))=true) →((decide (p1≤p0))=(decide (p1≤p0)))) ∧((((decide (p1≤p0))=true) →((decide (p1≤p0))=(decide (p1≤p0)))) ∧(((decide (p1≤p0))=(decide (p1≤p0))) ∧(K (cond (decide (p1≤p0)) (decide (p0≤p2)) false)))))
theorem w_Za_eq (p0:Int) (p1:Int) (p2:Int) (K:Bool→Prop):tfn F_Za A_Za C_Za P_Za R_Za (p0,p1,p2) K = w_Za p0 p1 p2 K := by kernel_rfl
def s_Za (p0:Int) (p1:Int) (p2:Int):Bool := (cond (decide (p1≤p0)) (decide (p0≤p2)) false)
abbrev pre_Za (_p0:Int) (_p1:Int) (_p2:Int):List Prop := []
theorem d_Za (p0:Int) (p1:Int) (p2:Int) (K:Bool→Prop) (_hp:∀ p∈pre_Za p0 p1 p2,p) (h:K (s_Za p0 p1 p2)):w_Za p0 p1 p2 K := by
 unfold w_Za
 unfold s_Za at h
 exact ⟨rf,rf,rfl,h⟩
abbrev con_Za:Con := ⟨P_Za,R_Za,fun x => pre_Za x.1 x.2.1 x.2.2,fun x => s_Za x.1 x.2.1 x.2.2⟩
theorem ok_Za:ConOk Tryz.prog 8 con_Za := okG k_Za e_Za hC_Za fun x hx => tf_of (w_Za_eq x.1 x.2.1 x.2.2 _) (d_Za x.1 x.2.1 x.2.2 _ hx rfl)
def C_Zv:Cons := []
theorem hC_Zv:ConsOk Tryz.prog C_Zv := ConsOk.nil
def w_Zv (p0:Int) (p1:Int) (K:Int→Prop):Prop := ((p1 ≠ zz0) ∧((((decide ((Int.tmod p0 p1) < 0))=true) →(K (IntKind.i64.wrap ((Int.tmod p0 p1) + p1)))) ∧(((decide ((Int.tmod p0 p1) < 0))=false) →(K (Int.tmod p0 p1)))))
theorem w_Zv_eq (p0:Int) (p1:Int) (K:Int→Prop):tfn F_Zv A_Zv C_Zv P_Zv R_Zv (p0,p1) K = w_Zv p0 p1 K := by kernel_rfl
def s_Zv (p0:Int) (p1:Int):Int := (cond (decide ((Int.tmod p0 p1) < 0)) (IntKind.i64.wrap ((Int.tmod p0 p1) + p1)) (Int.tmod p0 p1))
abbrev pre_Zv (_p0:Int) (p1:Int):List Prop := [(p1 ≠ (0:Int))]
theorem d_Zv (p0:Int) (p1:Int) (K:Int→Prop) (hp:∀ p∈pre_Zv p0 p1,p) (h:K (s_Zv p0 p1)):w_Zv p0 p1 K := by
 unfold w_Zv
 unfold s_Zv at h
 obtain ⟨hp0,_⟩ := conj_of hp
 exact ⟨(hp0),(br' h (fun e0 h => h)
  (fun e0 h => h))⟩
abbrev t_Zv (p0 p1:Int):Int := p0 % p1
abbrev qre_Zv (_p0 p1:Int):List Prop := [0 < p1∧p1≤1000000000000]
theorem pp_Zv (p0 p1:Int) (hq:∀ p∈qre_Zv p0 p1,p):∀ p∈pre_Zv p0 p1,p := by
 have h := (conj_of hq).1
 simp only [pre_Zv,fM]
 exact ⟨by omega,by simp⟩
theorem tt_Zv (p0 p1:Int) (hq:∀ p∈qre_Zv p0 p1,p):s_Zv p0 p1 = t_Zv p0 p1 := by
 have h := (conj_of hq).1
 unfold s_Zv t_Zv
 have h1 := v_tmod_lt (a := p0) (b := p1) (by omega)
 have h2 := Int.mul_tdiv_add_tmod p0 p1
 cases c:decide (p0.tmod p1 < 0)
 ·have := of_decide_eq_false c
  simp only [cond_false]
  exact ((Int.ediv_emod_unique (a := p0) (b := p1) (q := p0.tdiv p1) (r := p0.tmod p1) h.1).2 ⟨by omega,by omega,by omega⟩).2.symm
 ·have := of_decide_eq_true c
  simp only [cond_true]
  rw [wrap_id (by omega) (by omega)]
  have e:p1 * (p0.tdiv p1 - 1)=p1 * p0.tdiv p1 - p1 := by rw [Int.mul_sub,Int.mul_one]
  exact ((Int.ediv_emod_unique (a := p0) (b := p1) (q := p0.tdiv p1 - 1) (r := p0.tmod p1 + p1) h.1).2 ⟨by omega,by omega,by omega⟩).2.symm

abbrev con_Zv:Con := ⟨P_Zv,R_Zv,fun x => qre_Zv x.1 x.2,fun x => t_Zv x.1 x.2⟩
theorem ok_Zv:ConOk Tryz.prog 18 con_Zv := okG k_Zv e_Zv hC_Zv fun x hx => tf_of (w_Zv_eq x.1 x.2 _) (d_Zv x.1 x.2 _ (pp_Zv x.1 x.2 hx) (tt_Zv x.1 x.2 hx))
def C_Zk:Cons := []
theorem hC_Zk:ConsOk Tryz.prog C_Zk := ConsOk.nil
def w_Zk (p0:Int) (K:Int→Prop):Prop := (K (max p0 (IntKind.i64.wrap (zz0 - p0))))
theorem w_Zk_eq (p0:Int) (K:Int→Prop):tfn F_Zk A_Zk C_Zk P_Zk R_Zk p0 K = w_Zk p0 K := by kernel_rfl
def s_Zk (p0:Int):Int := (max p0 (IntKind.i64.wrap ((0:Int) - p0)))
abbrev pre_Zk (_p0:Int):List Prop := []
theorem d_Zk (p0:Int) (K:Int→Prop) (_hp:∀ p∈pre_Zk p0,p) (h:K (s_Zk p0)):w_Zk p0 K := by
 unfold w_Zk
 unfold s_Zk at h
 exact h
abbrev con_Zk:Con := ⟨P_Zk,R_Zk,fun x => pre_Zk x,fun x => s_Zk x⟩
theorem ok_Zk:ConOk Tryz.prog 135 con_Zk := okG k_Zk e_Zk hC_Zk fun x hx => tf_of (w_Zk_eq x _) (d_Zk x _ hx rfl)
def C_Zx:Cons := [(135,[],con_Zk)]
theorem hC_Zx:ConsOk Tryz.prog C_Zx := cC ok_Zk <| ConsOk.nil
def w_Zx (p0:gF) (p1:Int) (K:Int→Prop):Prop := ((((decide ((s_Zk p1) < (p0.length:Int)))=true) →((zz0≤(s_Zk p1)) ∧(((s_Zk p1) < (p0.length:Int)) ∧(K (p0.getD (Int.toNat (s_Zk p1)) zz0))))) ∧(((decide ((s_Zk p1) < (p0.length:Int)))=false) →(K zz0)))
theorem w_Zx_eq (p0:gF) (p1:Int) (K:Int→Prop):tfn F_Zx A_Zx C_Zx P_Zx R_Zx (p0,p1) K = w_Zx p0 p1 K := by kernel_rfl
def s_Zx (p0:gF) (p1:Int):Int := (cond (decide ((s_Zk p1) < (p0.length:Int))) (p0.getD (Int.toNat (s_Zk p1)) (0:Int)) (0:Int))
abbrev pre_Zx (p0:gF) (p1:Int):List Prop := [(((decide ((s_Zk p1) < (p0.length:Int)))=true)→((0:Int)≤(s_Zk p1))),(((decide ((s_Zk p1) < (p0.length:Int)))=true)→((s_Zk p1) < (p0.length:Int)))]
theorem d_Zx (p0:gF) (p1:Int) (K:Int→Prop) (hp:∀ p∈pre_Zx p0 p1,p) (h:K (s_Zx p0 p1)):w_Zx p0 p1 K := by
 unfold w_Zx
 unfold s_Zx at h
 obtain ⟨hp0,hp1,_⟩ := conj_of hp
 exact (br' h (fun e0 h => ⟨(hp0 e0),(hp1 e0),h⟩)
  (fun e0 h => h))
theorem tx_size {x:Int} (h:v_fit x):s_Zk x = x.natAbs := by
 unfold s_Zk
 unfold v_fit at h
 rw [wrap_id (by omega) (by omega)]; omega
abbrev t_Zx (p0:gF) (p1:Int):Int := v_at p0 p1
abbrev qre_Zx (_p0:gF) (p1:Int):List Prop := [v_fit p1]
theorem pp_Zx (p0:gF) (p1:Int) (hq:∀ p∈qre_Zx p0 p1,p):∀ p∈pre_Zx p0 p1,p := by
 have h := (conj_of hq).1
 have e := tx_size h
 simp only [pre_Zx,fM,e]
 exact ⟨fun _ => by omega,fun h => of_decide_eq_true h,by simp⟩
theorem tt_Zx (p0:gF) (p1:Int) (hq:∀ p∈qre_Zx p0 p1,p):s_Zx p0 p1 = t_Zx p0 p1 := by
 have e := tx_size (conj_of hq).1
 unfold s_Zx t_Zx v_at
 rw [e,Int.toNat_natCast]
 by_cases c:p1.natAbs < p0.length
 ·rw [decide_eq_true (show (p1.natAbs:Int) < (p0.length:Nat) by omega)]; rfl
 ·rw [decide_eq_false (show ¬ (p1.natAbs:Int) < (p0.length:Nat) by omega),gd_out _ (by omega)]; rfl

abbrev con_Zx:Con := ⟨P_Zx,R_Zx,fun x => qre_Zx x.1 x.2,fun x => t_Zx x.1 x.2⟩
theorem ok_Zx:ConOk Tryz.prog 204 con_Zx := okG k_Zx e_Zx hC_Zx fun x hx => tf_of (w_Zx_eq x.1 x.2 _) (d_Zx x.1 x.2 _ (pp_Zx x.1 x.2 hx) (tt_Zx x.1 x.2 hx))
def C_Zm:Cons := [(18,[],con_Zv),(204,[],con_Zx)]
theorem hC_Zm:ConsOk Tryz.prog C_Zm := cC ok_Zv <| cC ok_Zx <| ConsOk.nil
def w_Zm (p0:gF) (p1:Int) (K:Int→Prop):Prop := (∃ n0,(loopP (fun (y1:gG) k2 => ((((decide (y1.1 < (p0.length:Int)))=true) →(((zz0 < 4) ∧((4:Int)≤1000000000000)) ∧((zz0≤((IntKind.i64.wrap (y1.1 * p1)) % (4:Int))) ∧((((IntKind.i64.wrap (y1.1 * p1)) % (4:Int)) < (((List.length (zz1 :: (zz0 :: ((-1:Int) :: (zz0 :: ([]:List Int)))))):Nat):Int)) ∧((v_fit y1.1) ∧(k2 ((IntKind.i64.wrap (y1.1 + 1)),(IntKind.i64.wrap (y1.2 + (IntKind.i64.wrap ((List.getD (zz1 :: (zz0 :: ((-1:Int) :: (zz0 :: ([]:List Int))))) (Int.toNat ((IntKind.i64.wrap (y1.1 * p1)) % (4:Int))) zz0) * (v_at p0 y1.1)))))))))))) ∧(((decide (y1.1 < (p0.length:Int)))=false) →(K y1.2)))) n0 ((IntKind.i64.wrap ((IntKind.i64.wrap (zz0 - (p0.length:Int))) + 1)),zz0)))
theorem w_Zm_eq (p0:gF) (p1:Int) (K:Int→Prop):tfn F_Zm A_Zm C_Zm P_Zm R_Zm (p0,p1) K = w_Zm p0 p1 K := by kernel_rfl
def st_Zm_0 (p0:gF) (p1:Int) (y0:gG):(Int×Int) ⊕ Int := (cond (decide (y0.1 < (p0.length:Int))) (Sum.inl ((IntKind.i64.wrap (y0.1 + 1)),(IntKind.i64.wrap (y0.2 + (IntKind.i64.wrap ((List.getD ((1:Int) :: ((0:Int) :: ((-1:Int) :: ((0:Int) :: ([]:List Int))))) (Int.toNat ((IntKind.i64.wrap (y0.1 * p1)) % (4:Int))) (0:Int)) * (v_at p0 y0.1))))))) (Sum.inr y0.2))
abbrev sp_Zm_0 (p0:gF) (p1:Int) (y0:gG):List Prop := [(((decide (y0.1 < (p0.length:Int)))=true)→((0:Int)≤((IntKind.i64.wrap (y0.1 * p1)) % (4:Int)))),(((decide (y0.1 < (p0.length:Int)))=true)→(((IntKind.i64.wrap (y0.1 * p1)) % (4:Int)) < (((List.length ((1:Int) :: ((0:Int) :: ((-1:Int) :: ((0:Int) :: ([]:List Int)))))):Nat):Int))),(((decide (y0.1 < (p0.length:Int)))=true)→(v_fit y0.1))]
def s_Zm (p0:gF) (p1:Int):Int := (lpv (0:Int) (st_Zm_0 p0 p1) ((IntKind.i64.wrap ((IntKind.i64.wrap ((0:Int) - (p0.length:Int))) + 1)),(0:Int)))
abbrev pre_Zm (p0:gF) (p1:Int):List Prop := [(OkL (st_Zm_0 p0 p1) (sp_Zm_0 p0 p1) ((IntKind.i64.wrap ((IntKind.i64.wrap ((0:Int) - (p0.length:Int))) + 1)),(0:Int)))]
theorem d_Zm (p0:gF) (p1:Int) (K:Int→Prop) (hp:∀ p∈pre_Zm p0 p1,p) (h:K (s_Zm p0 p1)):w_Zm p0 p1 K := by
 unfold w_Zm
 unfold s_Zm at h
 obtain ⟨hp0,_⟩ := conj_of hp
 exact (loop_gen (hp0) h (fun y0 k0 hp h => by
 unfold st_Zm_0 at h; obtain ⟨hp0,hp1,hp2,_⟩ := conj_of hp
 exact (br' h (fun e1 h => ⟨(od rfl),(hp0 e1),(hp1 e1),(hp2 e1),h⟩)
  (fun e1 h => h))))
/-- The cosine of whole quarters. -/
def v_cos (x:Int):Int := [1,0,-1,0].getD (x % 4).toNat 0
theorem v_cos_in (x:Int):(v_cos x = 1 ∨ v_cos x = 0 ∨ v_cos x = -1) := by
 unfold v_cos
 have h1 := Int.emod_nonneg x (show (4:Int) ≠ 0 by decide)
 have h2 := Int.emod_lt_of_pos x (show (0:Int) < 4 by decide)
 generalize x % 4 = y at *
 have:y = 0 ∨ y = 1 ∨ y = 2 ∨ y = 3 := by omega
 rcases this with rfl | rfl | rfl | rfl <;> decide
/-- The gain of a filter at a quarter. -/
def v_gain (f:gF) (q:Int):Int := v_sums (fun j => v_cos (((j:Int) - ((f.length:Int) - 1)) * q) * v_at f ((j:Int) - ((f.length:Int) - 1))) 0 (2 * f.length - 1)
theorem v_gain0 (f:gF):v_gain f 0 = v_fsum f := by
 unfold v_gain v_fsum
 refine v_sums_congr _ _ fun k _ _ => ?_
 rw [Int.mul_zero]
 show 1 * _ = _
 rw [Int.one_mul]
theorem v_cos_at {f:List Int} (h:v_fw f) (x k:Int) : -100000≤v_cos x * v_at f k∧v_cos x * v_at f k≤100000 := by
 have := h.at k
 rcases v_cos_in x with e | e | e <;> rw [e] <;> omega
theorem l_Zm (p0:gF) (p1:Int) (h:v_fw p0) (hq:0≤p1∧p1≤3):OkL (st_Zm_0 p0 p1) (sp_Zm_0 p0 p1) ((IntKind.i64.wrap ((IntKind.i64.wrap ((0:Int) - (p0.length:Int))) + 1)),(0:Int))∧s_Zm p0 p1 = v_gain p0 p1 := by
 have h1 := h.one
 have h2 := h.nine
 unfold s_Zm
 rw [wrap_id (show -9223372036854775808≤0 - ((p0.length:Nat):Int) by omega) (by omega),wrap_id (show -9223372036854775808≤0 - ((p0.length:Nat):Int) + 1 by omega) (by omega),show (0:Int) - ((p0.length:Nat):Int) + 1 = ((0:Nat):Int) - ((p0.length:Int) - 1) by omega]
 refine for_is (fun i t => (i - ((p0.length:Int) - 1),t)) 0 (2 * p0.length - 1) (fun j t => t = v_sums (fun j => v_cos (((j:Int) - ((p0.length:Int) - 1)) * p1) * v_at p0 ((j:Int) - ((p0.length:Int) - 1))) 0 j) (fun _ _ => v_gain p0 p1) (by omega) (by omega) ?_ ?_ 0 rfl
 ·intro t ht
  have hd:decide (((2 * p0.length - 1:Nat):Int) - ((p0.length:Int) - 1) < (p0.length:Nat))=false := decide_eq_false (by omega)
  refine ⟨by simp only [sp_Zm_0,fM,hd]; simp,?_⟩
  simp only [st_Zm_0,hd,cond_false]
  rw [ht]; rfl
 ·intro j t _ hj ht
  have hd:decide ((j:Int) - ((p0.length:Int) - 1) < (p0.length:Nat))=true := decide_eq_true (by omega)
  have hp : -100≤((j:Int) - ((p0.length:Int) - 1)) * p1∧((j:Int) - ((p0.length:Int) - 1)) * p1≤100 := by
   have:p1 = 0 ∨ p1 = 1 ∨ p1 = 2 ∨ p1 = 3 := by omega
   rcases this with rfl | rfl | rfl | rfl <;> omega
  have hw:IntKind.i64.wrap (((j:Int) - ((p0.length:Int) - 1)) * p1)=((j:Int) - ((p0.length:Int) - 1)) * p1 := wrap_id (by omega) (by omega)
  have m1 := Int.emod_nonneg (((j:Int) - ((p0.length:Int) - 1)) * p1) (show (4:Int) ≠ 0 by decide)
  have m2 := Int.emod_lt_of_pos (((j:Int) - ((p0.length:Int) - 1)) * p1) (show (0:Int) < 4 by decide)
  refine ⟨?_,.inl ⟨_,?_,rfl,rfl⟩⟩
  ·simp only [sp_Zm_0,fM,hw]
   exact ⟨fun _ => m1,fun _ => by simp only [List.length_cons,List.length_nil]; omega,fun _ => by unfold v_fit; omega,by simp⟩
  ·have hb := v_sums_in (f := fun j => v_cos (((j:Int) - ((p0.length:Int) - 1)) * p1) * v_at p0 ((j:Int) - ((p0.length:Int) - 1))) (m := 100000) j 0 (fun k _ _ => v_cos_at h _ _)
   have ha := v_cos_at h (((j:Int) - ((p0.length:Int) - 1)) * p1) ((j:Int) - ((p0.length:Int) - 1))
   simp only [st_Zm_0,hd,cond_true,hw]
   rw [show (List.getD [1,0,-1,0] (((j:Int) - ((p0.length:Int) - 1)) * p1 % 4).toNat 0)=v_cos (((j:Int) - ((p0.length:Int) - 1)) * p1) from rfl,wrap_id (show -9223372036854775808≤v_cos (((j:Int) - ((p0.length:Int) - 1)) * p1) * v_at p0 ((j:Int) - ((p0.length:Int) - 1)) by omega) (by omega),ht,v_sums_last,Nat.zero_add,wrap_id (by omega) (by omega),wrap_id (by omega) (by omega),show (j:Int) - ((p0.length:Int) - 1) + 1 = ((j + 1:Nat):Int) - ((p0.length:Int) - 1) by omega]
abbrev t_Zm (p0:gF) (p1:Int):Int := v_gain p0 p1
abbrev qre_Zm (p0:gF) (p1:Int):List Prop := [v_fw p0,0≤p1∧p1≤3]
theorem pp_Zm (p0:gF) (p1:Int) (hq:∀ p∈qre_Zm p0 p1,p):∀ p∈pre_Zm p0 p1,p := by
 simp only [pre_Zm,fM]
 exact ⟨(l_Zm p0 p1 (conj_of hq).1 (conj_of hq).2.1).1,by simp⟩
theorem tt_Zm (p0:gF) (p1:Int) (hq:∀ p∈qre_Zm p0 p1,p):s_Zm p0 p1 = t_Zm p0 p1 := (l_Zm p0 p1 (conj_of hq).1 (conj_of hq).2.1).2

abbrev con_Zm:Con := ⟨P_Zm,R_Zm,fun x => qre_Zm x.1 x.2,fun x => t_Zm x.1 x.2⟩
theorem ok_Zm:ConOk Tryz.prog 169 con_Zm := okG k_Zm e_Zm hC_Zm fun x hx => tf_of (w_Zm_eq x.1 x.2 _) (d_Zm x.1 x.2 _ (pp_Zm x.1 x.2 hx) (tt_Zm x.1 x.2 hx))
def C_Z11:Cons := [(169,[],con_Zm)]
theorem hC_Z11:ConsOk Tryz.prog C_Z11 := cC ok_Zm <| ConsOk.nil
def w_Z11 (p0:gF) (K:Int→Prop):Prop := ((v_fw p0) ∧(((zz0≤0) ∧(zz0≤3)) ∧(K (v_gain p0 zz0))))
theorem w_Z11_eq (p0:gF) (K:Int→Prop):tfn F_Z11 A_Z11 C_Z11 P_Z11 R_Z11 p0 K = w_Z11 p0 K := by kernel_rfl
def s_Z11 (p0:gF):Int := (v_gain p0 (0:Int))
abbrev pre_Z11 (p0:gF):List Prop := [(v_fw p0)]
theorem d_Z11 (p0:gF) (K:Int→Prop) (hp:∀ p∈pre_Z11 p0,p) (h:K (s_Z11 p0)):w_Z11 p0 K := by
 unfold w_Z11
 unfold s_Z11 at h
 obtain ⟨hp0,_⟩ := conj_of hp
 exact ⟨(hp0),(od rfl),h⟩
abbrev t_Z11 (p0:gF):Int := v_fsum p0
abbrev qre_Z11 (p0:gF):List Prop := [v_fw p0]
theorem pp_Z11 (p0:gF) (hq:∀ p∈qre_Z11 p0,p):∀ p∈pre_Z11 p0,p := by
 simp only [pre_Z11,fM]
 exact ⟨(conj_of hq).1,by simp⟩
theorem tt_Z11 (p0:gF) (_:∀ p∈qre_Z11 p0,p):s_Z11 p0 = t_Z11 p0 := v_gain0 p0

abbrev con_Z11:Con := ⟨P_Z11,R_Z11,fun x => qre_Z11 x,fun x => t_Z11 x⟩
theorem ok_Z11:ConOk Tryz.prog 113 con_Z11 := okG k_Z11 e_Z11 hC_Z11 fun x hx => tf_of (w_Z11_eq x _) (d_Z11 x _ (pp_Z11 x hx) (tt_Z11 x hx))
def C_Zi:Cons := [(8,[],con_Za),(113,[],con_Z11)]
theorem hC_Zi:ConsOk Tryz.prog C_Zi := cC ok_Za <| cC ok_Z11 <| ConsOk.nil
def w_Zi (p0:gF) (K:Int→Prop):Prop := (((((p0.length:Int) == 0)=true) →(K (10:Int))) ∧((((p0.length:Int) == 0)=false) →((((decide ((p0.length:Int) > 9))=true) →(K (8:Int))) ∧(((decide ((p0.length:Int) > 9))=false) →(∃ n0,(loopP (fun (y1:Int) k2 => ((((decide (y1 < (p0.length:Int)))=true) →((zz0≤y1) ∧((y1 < (p0.length:Int)) ∧((((!(s_Za (p0.getD y1.toNat zz0) (-100000:Int) (100000:Int)))=true) →(K (2:Int))) ∧(((!(s_Za (p0.getD y1.toNat zz0) (-100000:Int) (100000:Int)))=false) →(k2 (IntKind.i64.wrap (y1 + 1)))))))) ∧(((decide (y1 < (p0.length:Int)))=false) →((v_fw p0) ∧((((decide ((v_fsum p0) < 1))=true) →(K (11:Int))) ∧(((decide ((v_fsum p0) < 1))=false) →(K zz0))))))) n0 zz0))))))
theorem w_Zi_eq (p0:gF) (K:Int→Prop):tfn F_Zi A_Zi C_Zi P_Zi R_Zi p0 K = w_Zi p0 K := by kernel_rfl
def st_Zi_0 (p0:gF) (y2:Int):Int ⊕ Int := (cond (decide (y2 < (p0.length:Int))) (cond (!(s_Za (p0.getD y2.toNat (0:Int)) (-100000:Int) (100000:Int))) (Sum.inr (2:Int)) (Sum.inl (IntKind.i64.wrap (y2 + 1)))) (cond (decide ((v_fsum p0) < 1)) (Sum.inr (11:Int)) (Sum.inr (0:Int))))
abbrev sp_Zi_0 (p0:gF) (y2:Int):List Prop := [(((decide (y2 < (p0.length:Int)))=true)→((0:Int)≤y2)),(((decide (y2 < (p0.length:Int)))=true)→(y2 < (p0.length:Int))),(((decide (y2 < (p0.length:Int)))=false)→(v_fw p0))]
def s_Zi (p0:gF):Int := (cond ((p0.length:Int) == 0) (10:Int) (cond (decide ((p0.length:Int) > 9)) (8:Int) (lpv (0:Int) (st_Zi_0 p0) (0:Int))))
abbrev pre_Zi (p0:gF):List Prop := [((((p0.length:Int) == 0)=false)→(((decide ((p0.length:Int) > 9))=false)→(OkL (st_Zi_0 p0) (sp_Zi_0 p0) (0:Int))))]
theorem d_Zi (p0:gF) (K:Int→Prop) (hp:∀ p∈pre_Zi p0,p) (h:K (s_Zi p0)):w_Zi p0 K := by
 unfold w_Zi
 unfold s_Zi at h
 obtain ⟨hp0,_⟩ := conj_of hp
 exact (br' h (fun e0 h => h)
  (fun e0 h => (br' h (fun e1 h => h)
  (fun e1 h => (loop_gen (hp0 e0 e1) h (fun y2 k2 hp h => by
 unfold st_Zi_0 at h; obtain ⟨hp0,hp1,hp2,_⟩ := conj_of hp
 exact (br' h (fun e3 h => ⟨(hp0 e3),(hp1 e3),(br' h (fun e4 h => h)
  (fun e4 h => h))⟩)
  (fun e3 h => ⟨(hp2 e3),(br' h (fun e5 h => h)
  (fun e5 h => h))⟩))))))))
theorem tx_filerr {p0:List Int} (h1:1≤p0.length) (h9:p0.length≤9):v_filerr p0 = cond (v_any_Zr p0) 2 (s_Z6 (decide (v_fsum p0 > 0)) 11) := by
 unfold v_filerr v_fw0
 rw [decide_eq_true (show (p0.length:Int) > 0 by omega),decide_eq_true (show (p0.length:Int)≤9 by omega)]
 cases v_any_Zr p0 <;> rfl
theorem l_Zi (p0:gF) (h1:1≤p0.length) (h9:p0.length≤9):OkL (st_Zi_0 p0) (sp_Zi_0 p0) 0∧lpv 0 (st_Zi_0 p0) 0 = v_filerr p0 := by
 have hc:∀ x,(!(s_Za x (-100000) 100000))=s_Zu x := fun x => rfl
 refine for_is (fun i (_:Unit) => i) 0 p0.length (fun j _ => ∀ k,k < j→s_Zu (p0.getD k 0)=false) (fun _ _ => v_filerr p0) (by omega) (by omega) ?_ ?_ () (fun k hk => by omega)
 ·intro t hi
  have hd:decide ((p0.length:Int) < (p0.length:Nat))=false := decide_eq_false (by omega)
  have ha:v_any_Zr p0 = false := by
   refine List.any_eq_false.2 fun x hx => ?_
   obtain ⟨k,hk,rfl⟩ := List.mem_iff_getElem.1 hx
   rw [← gd_get 0 hk,hi k hk]; simp
  have hw:v_fw p0 := by
   refine ⟨h1,h9,fun x hx => ?_⟩
   have := List.any_eq_false.1 ha x hx
   exact tx_sized.1 (by simpa [s_Zu] using this)
  refine ⟨by simp only [sp_Zi_0,fM,decide_eq_true_eq]; exact ⟨fun h => by omega,fun h => by omega,fun _ => hw,by simp⟩,?_⟩
  simp only [st_Zi_0,hd,cond_false]
  rw [tx_filerr h1 h9,ha]
  rcases Int.lt_or_le (v_fsum p0) 1 with c | c
  ·rw [decide_eq_true c,decide_eq_false (by omega)]; rfl
  ·rw [decide_eq_false (by omega),decide_eq_true (by omega)]; rfl
 ·intro j t _ hj hi
  have hd:decide ((j:Int) < (p0.length:Nat))=true := decide_eq_true (by omega)
  refine ⟨by simp only [sp_Zi_0,fM,decide_eq_true_eq,decide_eq_false_iff_not]; exact ⟨fun _ => by omega,fun _ => by omega,fun h => absurd hj (by omega),by simp⟩,?_⟩
  simp only [st_Zi_0,hd,cond_true,hc,Int.toNat_natCast]
  cases c:s_Zu (p0.getD j 0)
  ·refine .inl ⟨(),by rw [wrap_nat (by omega)]; rfl,fun k hk => ?_,trivial⟩
   by_cases e:k = j
   ·rw [e]; exact c
   ·exact hi k (by omega)
  ·refine .inr ?_
   rw [tx_filerr h1 h9,show v_any_Zr p0 = true from List.any_eq_true.2 ⟨_,getD_mem' 0 hj,c⟩]; rfl
abbrev t_Zi (p0:gF):Int := v_filerr p0
abbrev qre_Zi (_:gF):List Prop := []
theorem l_ref05_FilterErr0 {p0:List Int} (h:((p0.length:Int) == 0)=false) (h2:decide ((p0.length:Int) > 9)=false):1≤p0.length∧p0.length≤9 := by
 have e1:¬ (p0.length:Int)=0 := by simpa using h
 have e2 := of_decide_eq_false h2
 omega
theorem pp_Zi (p0:gF) (_:∀ p∈qre_Zi p0,p):∀ p∈pre_Zi p0,p := by
 simp only [pre_Zi,fM]
 exact ⟨fun h h2 => (l_Zi p0 (l_ref05_FilterErr0 h h2).1 (l_ref05_FilterErr0 h h2).2).1,by simp⟩
theorem tt_Zi (p0:gF) (_:∀ p∈qre_Zi p0,p):s_Zi p0 = t_Zi p0 := by
 unfold s_Zi t_Zi
 cases h:((p0.length:Int) == 0)
 ·cases h2:decide ((p0.length:Int) > 9)
  ·exact (l_Zi p0 (l_ref05_FilterErr0 h h2).1 (l_ref05_FilterErr0 h h2).2).2
  ·have := of_decide_eq_true h2
   unfold v_filerr v_fw0
   rw [decide_eq_true (show (p0.length:Int) > 0 by omega),decide_eq_false (show ¬ (p0.length:Int)≤9 by omega)]; rfl
 ·have:(p0.length:Int)=0 := by simpa using h
  unfold v_filerr v_fw0
  rw [this]; rfl

abbrev con_Zi:Con := ⟨P_Zi,R_Zi,fun x => qre_Zi x,fun x => t_Zi x⟩
theorem ok_Zi:ConOk Tryz.prog 49 con_Zi := okG k_Zi e_Zi hC_Zi fun x hx => tf_of (w_Zi_eq x _) (d_Zi x _ (pp_Zi x hx) (tt_Zi x hx))
def C_Z10:Cons := [(100,[],con_Zo),(111,[],con_Z8),(49,[],con_Zi)]
theorem hC_Z10:ConsOk Tryz.prog C_Z10 := cC ok_Zo <| cC ok_Z8 <| cC ok_Zi <| ConsOk.nil
def w_Z10 (p0:ByteArray) (K:((List Int)×Int)→Prop):Prop := ((((decide ((((ByteArray.size p0):Nat):Int) > 60000))=true) →(K (([]:List Int),(8:Int)))) ∧(((decide ((((ByteArray.size p0):Nat):Int) > 60000))=false) →((zz0≤32) ∧(((32:Int) < 256) ∧(((ByteArray.size p0)≤1000000) ∧(((List.length (v_ct p0 (32:Int)))≤1100000) ∧((v_szok (v_ct p0 (32:Int))) ∧((zz0≤7) ∧(((7:Int)≤18) ∧((((!(v_gnp (7:Int) zz0 (v_ct p0 (32:Int))).2)=true) →(K (([]:List Int),(7:Int)))) ∧(((!(v_gnp (7:Int) zz0 (v_ct p0 (32:Int))).2)=false) →(((((v_filerr (v_gnp (7:Int) zz0 (v_ct p0 (32:Int))).1) != 0)=true) →(K (([]:List Int),(v_filerr (v_gnp (7:Int) zz0 (v_ct p0 (32:Int))).1)))) ∧((((v_filerr (v_gnp (7:Int) zz0 (v_ct p0 (32:Int))).1) != 0)=false) →(K ((v_gnp (7:Int) zz0 (v_ct p0 (32:Int))).1,zz0)))))))))))))))
theorem w_Z10_eq (p0:ByteArray) (K:((List Int)×Int)→Prop):tfn F_Z10 A_Z10 C_Z10 P_Z10 R_Z10 p0 K = w_Z10 p0 K := by kernel_rfl
def s_Z10 (p0:ByteArray):((List Int)×Int) := (cond (decide ((((ByteArray.size p0):Nat):Int) > 60000)) (([]:List Int),(8:Int)) (cond (!(v_gnp (7:Int) (0:Int) (v_ct p0 (32:Int))).2) (([]:List Int),(7:Int)) (cond ((v_filerr (v_gnp (7:Int) (0:Int) (v_ct p0 (32:Int))).1) != 0) (([]:List Int),(v_filerr (v_gnp (7:Int) (0:Int) (v_ct p0 (32:Int))).1)) ((v_gnp (7:Int) (0:Int) (v_ct p0 (32:Int))).1,(0:Int)))))
abbrev pre_Z10 (p0:ByteArray):List Prop := [(((decide ((((ByteArray.size p0):Nat):Int) > 60000))=false)→((ByteArray.size p0)≤1000000)),(((decide ((((ByteArray.size p0):Nat):Int) > 60000))=false)→((List.length (v_ct p0 (32:Int)))≤1100000)),(((decide ((((ByteArray.size p0):Nat):Int) > 60000))=false)→(v_szok (v_ct p0 (32:Int))))]
theorem d_Z10 (p0:ByteArray) (K:((List Int)×Int)→Prop) (hp:∀ p∈pre_Z10 p0,p) (h:K (s_Z10 p0)):w_Z10 p0 K := by
 unfold w_Z10
 unfold s_Z10 at h
 obtain ⟨hp0,hp1,hp2,_⟩ := conj_of hp
 exact (br' h (fun e0 h => h)
  (fun e0 h => ⟨(od rfl),(od rfl),(hp0 e0),(hp1 e0),(hp2 e0),(od rfl),(od rfl),(br' h (fun e1 h => h)
  (fun e1 h => (br' h (fun e2 h => h)
  (fun e2 h => h))))⟩))
abbrev t_Z10 (p0:ByteArray):List Int×Int := v_pfil p0
abbrev qre_Z10 (_p0:ByteArray):List Prop := []
theorem pp_Z10 (p0:ByteArray) (_hq:∀ p∈qre_Z10 p0,p):∀ p∈pre_Z10 p0,p := by
 have hc := v_ct_len p0 32
 have hm:p0.size≤60000→∀ z∈v_ct p0 32,z.size≤1000000 := fun h z hz => by have := v_ct_mem hz; omega
 have hg := v_gnp_len 7 0 (v_ct p0 32)
 have hs:decide ((p0.size:Int) > 60000)=false→p0.size≤60000 := fun h => by have := of_decide_eq_false h; omega
 simp only [pre_Z10,fM]
 and_intros
 all_goals first | (intro h; have := hs h; omega) | (intro h; exact hm (hs h)) | (intro h _; have := hs h; unfold lenOk; omega) | (intro _; decide) | (simp; done)
theorem tt_Z10 (p0:ByteArray) (_hq:∀ p∈qre_Z10 p0,p):s_Z10 p0 = t_Z10 p0 := rfl

abbrev con_Z10:Con := ⟨P_Z10,R_Z10,fun x => qre_Z10 x,fun x => t_Z10 x⟩
theorem ok_Z10:ConOk Tryz.prog 44 con_Z10 := okG k_Z10 e_Z10 hC_Z10 fun x hx => tf_of (w_Z10_eq x _) (d_Z10 x _ (pp_Z10 x hx) (tt_Z10 x hx))
def C_Z13:Cons := [(8,[],con_Za)]
theorem hC_Z13:ConsOk Tryz.prog C_Z13 := cC ok_Za <| ConsOk.nil
def w_Z13 (p0:tQA) (p1:Int) (K:Int→Prop):Prop := ((((!(s_Za p1 zz0 (IntKind.i64.wrap (p0.1 - 1))))=true) →(K (6:Int))) ∧(((!(s_Za p1 zz0 (IntKind.i64.wrap (p0.1 - 1))))=false) →(K zz0)))
theorem w_Z13_eq (p0:tQA) (p1:Int) (K:Int→Prop):tfn F_Z13 A_Z13 C_Z13 P_Z13 R_Z13 (p0,p1) K = w_Z13 p0 p1 K := by kernel_rfl
def s_Z13 (p0:tQA) (p1:Int):Int := (cond (!(s_Za p1 (0:Int) (IntKind.i64.wrap (p0.1 - 1)))) (6:Int) (0:Int))
abbrev pre_Z13 (_p0:tQA) (_p1:Int):List Prop := []
theorem d_Z13 (p0:tQA) (p1:Int) (K:Int→Prop) (_hp:∀ p∈pre_Z13 p0 p1,p) (h:K (s_Z13 p0 p1)):w_Z13 p0 p1 K := by
 unfold w_Z13
 unfold s_Z13 at h
 exact (br' h (fun e0 h => h)
  (fun e0 h => h))
abbrev con_Z13:Con := ⟨P_Z13,R_Z13,fun x => pre_Z13 x.1 x.2,fun x => s_Z13 x.1 x.2⟩
theorem ok_Z13:ConOk Tryz.prog 9 con_Z13 := okG k_Z13 e_Z13 hC_Z13 fun x hx => tf_of (w_Z13_eq x.1 x.2 _) (d_Z13 x.1 x.2 _ hx rfl)
def C_Zy:Cons := [(8,[],con_Za)]
theorem hC_Zy:ConsOk Tryz.prog C_Zy := cC ok_Za <| ConsOk.nil
def w_Zy (p0:gG) (p1:Int) (K:Int→Prop):Prop := ((((!(s_Za p0.1 (IntKind.i64.wrap (zz0 - p1)) p1))=false) →((!(s_Za p0.1 (IntKind.i64.wrap (zz0 - p1)) p1))=(!(s_Za p0.1 (IntKind.i64.wrap (zz0 - p1)) p1)))) ∧((((!(s_Za p0.1 (IntKind.i64.wrap (zz0 - p1)) p1))=false) →((!(s_Za p0.1 (IntKind.i64.wrap (zz0 - p1)) p1))=(!(s_Za p0.1 (IntKind.i64.wrap (zz0 - p1)) p1)))) ∧((((!(s_Za p0.1 (IntKind.i64.wrap (zz0 - p1)) p1))=false) →((!(s_Za p0.1 (IntKind.i64.wrap (zz0 - p1)) p1))=(!(s_Za p0.1 (IntKind.i64.wrap (zz0 - p1)) p1)))) ∧((((!(s_Za p0.1 (IntKind.i64.wrap (zz0 - p1)) p1))=false) →((!(s_Za p0.1 (IntKind.i64.wrap (zz0 - p1)) p1))=(!(s_Za p0.1 (IntKind.i64.wrap (zz0 - p1)) p1)))) ∧((((!(s_Za p0.1 (IntKind.i64.wrap (zz0 - p1)) p1))=false) →((!(s_Za p0.1 (IntKind.i64.wrap (zz0 - p1)) p1))=(!(s_Za p0.1 (IntKind.i64.wrap (zz0 - p1)) p1)))) ∧((((!(s_Za p0.1 (IntKind.i64.wrap (zz0 - p1)) p1))=false) →((!(s_Za p0.1 (IntKind.i64.wrap (zz0 - p1)) p1))=(!(s_Za p0.1 (IntKind.i64.wrap (zz0 - p1)) p1)))) ∧(((!(s_Za p0.1 (IntKind.i64.wrap (zz0 - p1)) p1))=(!(s_Za p0.1 (IntKind.i64.wrap (zz0 - p1)) p1))) ∧((((cond (!(s_Za p0.1 (IntKind.i64.wrap (zz0 - p1)) p1)) true (!(s_Za p0.2 (IntKind.i64.wrap (zz0 - p1)) p1)))=true) →(K (2:Int))) ∧(((cond (!(s_Za p0.1 (IntKind.i64.wrap (zz0 - p1)) p1)) true (!(s_Za p0.2 (IntKind.i64.wrap (zz0 - p1)) p1)))=false) →((((decide (p0.1 > p0.2))=true) →(K (9:Int))) ∧(((decide (p0.1 > p0.2))=false) →(K zz0))))))))))))
theorem w_Zy_eq (p0:gG) (p1:Int) (K:Int→Prop):tfn F_Zy A_Zy C_Zy P_Zy R_Zy (p0,p1) K = w_Zy p0 p1 K := by kernel_rfl
def s_Zy (p0:gG) (p1:Int):Int := (cond (cond (!(s_Za p0.1 (IntKind.i64.wrap ((0:Int) - p1)) p1)) true (!(s_Za p0.2 (IntKind.i64.wrap ((0:Int) - p1)) p1))) (2:Int) (cond (decide (p0.1 > p0.2)) (9:Int) (0:Int)))
abbrev pre_Zy (_p0:gG) (_p1:Int):List Prop := []
theorem d_Zy (p0:gG) (p1:Int) (K:Int→Prop) (_hp:∀ p∈pre_Zy p0 p1,p) (h:K (s_Zy p0 p1)):w_Zy p0 p1 K := by
 unfold w_Zy
 unfold s_Zy at h
 exact ⟨rf,rf,rf,rf,rf,rf,rfl,(br' h (fun e0 h => h)
  (fun e0 h => (br' h (fun e1 h => h)
  (fun e1 h => h))))⟩
theorem tx_eqw {n lo hi:Int}:s_Za n lo hi = s_Z7 n lo hi := rfl
abbrev t_Zy (p0:gG) (p1:Int):Int := s_Zt p0 p1
abbrev qre_Zy (_:gG) (_:Int):List Prop := []
theorem pp_Zy (p0:gG) (p1:Int) (_:∀ p∈qre_Zy p0 p1,p):∀ p∈pre_Zy p0 p1,p := by intro p hp; simp at hp
theorem tt_Zy (p0:gG) (p1:Int) (_:∀ p∈qre_Zy p0 p1,p):s_Zy p0 p1 = t_Zy p0 p1 := by
 unfold s_Zy t_Zy s_Zt s_Zq
 simp only [tx_eqw]
 rcases Int.lt_or_le p0.2 p0.1 with h | h
 ·have h' : ¬ p0.1≤p0.2 := by omega
  cases s_Z7 p0.1 (IntKind.i64.wrap (0 - p1)) p1 <;> cases s_Z7 p0.2 (IntKind.i64.wrap (0 - p1)) p1 <;> simp [s_Z6,v_first,h,h']
 ·have h' : ¬ p0.2 < p0.1 := by omega
  cases s_Z7 p0.1 (IntKind.i64.wrap (0 - p1)) p1 <;> cases s_Z7 p0.2 (IntKind.i64.wrap (0 - p1)) p1 <;> simp [s_Z6,v_first,h,h']

abbrev con_Zy:Con := ⟨P_Zy,R_Zy,fun x => qre_Zy x.1 x.2,fun x => t_Zy x.1 x.2⟩
theorem ok_Zy:ConOk Tryz.prog 170 con_Zy := okG k_Zy e_Zy hC_Zy fun x hx => tf_of (w_Zy_eq x.1 x.2 _) (d_Zy x.1 x.2 _ (pp_Zy x.1 x.2 hx) (tt_Zy x.1 x.2 hx))
end Go.Proofs.YtepdfhjmngbhhaaGreatDoor
