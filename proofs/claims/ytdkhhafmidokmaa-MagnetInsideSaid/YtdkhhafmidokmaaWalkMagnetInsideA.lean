/- What the functions that MagnetInside reaches compute: contracts, each function once. No condition. -/
import Derived.Test.YtdkhhafmidokmaaLayB
import Derived.Test.YtdkhhafmidokmaaAwMMagnetInside
import Derived.KernelRfl
namespace Go.Proofs.Ytdkhhafmidokmaa
open Go Go.Mx
set_option maxRecDepth 100000
set_option maxHeartbeats 4000000
abbrev gF:=List Int
abbrev gG:=Int×Int
abbrev gA:=List (List Int×List Int)
abbrev gB:=List (Int×Int×Int)
abbrev gC:=List (Int×Int)
abbrev gE:=Int×List Int
abbrev gD:=(Int×List Int)×(Int×List Int)
theorem fM.{u} {α:Type u} {p:α→Prop} {a:α} {l:List α}:(∀ x∈a::l,p x) ↔ p a ∧ ∀ x∈l,p x := List.forall_mem_cons
theorem cC {P:Program} {f:FuncId} {ids:List FuncId} {c:Con} {C:Cons} (h:ConOk P f c) (hC:ConsOk P C) (hm:isMark ids=false := by rfl):ConsOk P ((f,ids,c)::C) := ConsOk.cons h hC hm
theorem okG {P:Program} {f:FuncId} {F:TFn} {A:Nat→Ty} {C:Cons} {ps rs:List PSh} {pre:(tyPs ps).den→List Prop} {s:(tyPs ps).den→(tyPs rs).den} (k:callable P f=true) (e:cFn P f=some F.erase) (hC:ConsOk P C) (h:∀ x,(∀ p∈pre x,p)→Tf F A C ps rs x (fun z => z=s x)):ConOk P f ⟨ps,rs,pre,s⟩ := ⟨k,fun x hx => ret_tf e hC (h x hx)⟩
abbrev wi (n:Int):Int := IntKind.i64.wrap n
abbrev zz0:Int := 0
abbrev zz1:Int := 1
abbrev zz2:Int := 2
abbrev zz3:Int := 3
theorem od {p:Prop} [Decidable p] (h:decide p = true):p := of_decide_eq_true h
theorem nof {p:Prop} (h:false = true):p := Bool.noConfusion h
theorem rf {p:Prop} {α:Sort _} {a:α} (_:p):a = a := rfl

def C_Zt:Cons := []
theorem hC_Zt:ConsOk Try.prog C_Zt := ConsOk.nil
def w_Zt (p0:(Int×(List (Int×Int)))) (K:Bool→Prop):Prop := (K (decide ((p0.2.length:Int)≤22)))
theorem w_Zt_eq (p0:(Int×(List (Int×Int)))) (K:Bool→Prop):tfn F_Zt A_Zt C_Zt P_Zt R_Zt p0 K = w_Zt p0 K := by kernel_rfl
def s_Zt (p0:(Int×(List (Int×Int)))):Bool := (decide ((p0.2.length:Int)≤22))
abbrev pre_Zt (_p0:(Int×(List (Int×Int)))):List Prop := []
theorem d_Zt (p0:(Int×(List (Int×Int)))) (K:Bool→Prop) (_hp:∀ p∈pre_Zt p0,p) (h:K (s_Zt p0)):w_Zt p0 K := by
 unfold w_Zt
 unfold s_Zt at h
 exact h
abbrev con_Zt:Con := ⟨P_Zt,R_Zt,fun x => pre_Zt x,fun x => s_Zt x⟩
theorem ok_Zt:ConOk Try.prog 14 con_Zt := okG k_Zt e_Zt hC_Zt fun x hx => tf_of (w_Zt_eq x _) (d_Zt x _ hx rfl)
def C_Zw:Cons := []
theorem hC_Zw:ConsOk Try.prog C_Zw := ConsOk.nil
def w_Zw (p0:(List (Int×(Int×(Int×(Int×Int)))))) (K:Bool→Prop):Prop := (K (decide ((p0.length:Int)≤22)))
theorem w_Zw_eq (p0:(List (Int×(Int×(Int×(Int×Int)))))) (K:Bool→Prop):tfn F_Zw A_Zw C_Zw P_Zw R_Zw p0 K = w_Zw p0 K := by kernel_rfl
def s_Zw (p0:(List (Int×(Int×(Int×(Int×Int)))))):Bool := (decide ((p0.length:Int)≤22))
abbrev pre_Zw (_p0:(List (Int×(Int×(Int×(Int×Int)))))):List Prop := []
theorem d_Zw (p0:(List (Int×(Int×(Int×(Int×Int)))))) (K:Bool→Prop) (_hp:∀ p∈pre_Zw p0,p) (h:K (s_Zw p0)):w_Zw p0 K := by
 unfold w_Zw
 unfold s_Zw at h
 exact h
abbrev con_Zw:Con := ⟨P_Zw,R_Zw,fun x => pre_Zw x,fun x => s_Zw x⟩
theorem ok_Zw:ConOk Try.prog 20 con_Zw := okG k_Zw e_Zw hC_Zw fun x hx => tf_of (w_Zw_eq x _) (d_Zw x _ hx rfl)
def C_Z3:Cons := []
theorem hC_Z3:ConsOk Try.prog C_Z3 := ConsOk.nil
def w_Z3 (p0:Int) (p1:Int) (p2:Int) (K:Bool→Prop):Prop := ((((decide (p1≤p0))=true) →((decide (p1≤p0))=(decide (p1≤p0)))) ∧((((decide (p1≤p0))=true) →((decide (p1≤p0))=(decide (p1≤p0)))) ∧(((decide (p1≤p0))=(decide (p1≤p0))) ∧(K (cond (decide (p1≤p0)) (decide (p0≤p2)) false)))))
theorem w_Z3_eq (p0:Int) (p1:Int) (p2:Int) (K:Bool→Prop):tfn F_Z3 A_Z3 C_Z3 P_Z3 R_Z3 (p0,p1,p2) K = w_Z3 p0 p1 p2 K := by kernel_rfl
def s_Z3 (p0:Int) (p1:Int) (p2:Int):Bool := (cond (decide (p1≤p0)) (decide (p0≤p2)) false)
abbrev pre_Z3 (_p0:Int) (_p1:Int) (_p2:Int):List Prop := []
theorem d_Z3 (p0:Int) (p1:Int) (p2:Int) (K:Bool→Prop) (_hp:∀ p∈pre_Z3 p0 p1 p2,p) (h:K (s_Z3 p0 p1 p2)):w_Z3 p0 p1 p2 K := by
 unfold w_Z3
 unfold s_Z3 at h
 exact ⟨rf,rf,rfl,h⟩
abbrev con_Z3:Con := ⟨P_Z3,R_Z3,fun x => pre_Z3 x.1 x.2.1 x.2.2,fun x => s_Z3 x.1 x.2.1 x.2.2⟩
theorem ok_Z3:ConOk Try.prog 17 con_Z3 := okG k_Z3 e_Z3 hC_Z3 fun x hx => tf_of (w_Z3_eq x.1 x.2.1 x.2.2 _) (d_Z3 x.1 x.2.1 x.2.2 _ hx rfl)
theorem tx_within {n lo hi:Int}:s_Z3 n lo hi = true ↔ lo≤n∧n≤hi := by unfold s_Z3; simp
def C_Zq:Cons := [(17,[],con_Z3)]
theorem hC_Zq:ConsOk Try.prog C_Zq := cC ok_Z3 <| ConsOk.nil
def w_Zq (p0:Int) (K:Bool→Prop):Prop := (K (s_Z3 p0 (-100000:Int) (100000:Int)))
theorem w_Zq_eq (p0:Int) (K:Bool→Prop):tfn F_Zq A_Zq C_Zq P_Zq R_Zq p0 K = w_Zq p0 K := by kernel_rfl
def s_Zq (p0:Int):Bool := (s_Z3 p0 (-100000:Int) (100000:Int))
abbrev pre_Zq (_p0:Int):List Prop := []
theorem d_Zq (p0:Int) (K:Bool→Prop) (_hp:∀ p∈pre_Zq p0,p) (h:K (s_Zq p0)):w_Zq p0 K := by
 unfold w_Zq
 unfold s_Zq at h
 exact h
abbrev con_Zq:Con := ⟨P_Zq,R_Zq,fun x => pre_Zq x,fun x => s_Zq x⟩
theorem ok_Zq:ConOk Try.prog 90 con_Zq := okG k_Zq e_Zq hC_Zq fun x hx => tf_of (w_Zq_eq x _) (d_Zq x _ hx rfl)
def C_Zp:Cons := [(17,[],con_Z3)]
theorem hC_Zp:ConsOk Try.prog C_Zp := cC ok_Z3 <| ConsOk.nil
def w_Zp (p0:Int) (K:Bool→Prop):Prop := (K (s_Z3 p0 zz0 (1000000000000:Int)))
theorem w_Zp_eq (p0:Int) (K:Bool→Prop):tfn F_Zp A_Zp C_Zp P_Zp R_Zp p0 K = w_Zp p0 K := by kernel_rfl
def s_Zp (p0:Int):Bool := (s_Z3 p0 (0:Int) (1000000000000:Int))
abbrev pre_Zp (_p0:Int):List Prop := []
theorem d_Zp (p0:Int) (K:Bool→Prop) (_hp:∀ p∈pre_Zp p0,p) (h:K (s_Zp p0)):w_Zp p0 K := by
 unfold w_Zp
 unfold s_Zp at h
 exact h
abbrev con_Zp:Con := ⟨P_Zp,R_Zp,fun x => pre_Zp x,fun x => s_Zp x⟩
theorem ok_Zp:ConOk Try.prog 88 con_Zp := okG k_Zp e_Zp hC_Zp fun x hx => tf_of (w_Zp_eq x _) (d_Zp x _ hx rfl)
def C_Z9:Cons := [(90,[],con_Zq),(88,[],con_Zp)]
theorem hC_Z9:ConsOk Try.prog C_Z9 := cC ok_Zq <| cC ok_Zp <| ConsOk.nil
abbrev q0_Z9 (p0:(Int×(List (Int×Int)))) (y1:Int) := (!(s_Z3 (p0.2.getD y1.toNat (zz0,zz0)).1 zz0 (1000000000000:Int)))
def w_Z9 (p0:(Int×(List (Int×Int)))) (K:(Int×Int)→Prop):Prop := ((((!(s_Z3 p0.1 (-100000:Int) (100000:Int)))=true) →(K (zz0,zz2))) ∧(((!(s_Z3 p0.1 (-100000:Int) (100000:Int)))=false) →((((decide ((p0.2.length:Int) < zz2))=true) →(K (zz0,(10:Int)))) ∧(((decide ((p0.2.length:Int) < zz2))=false) →((((decide ((p0.2.length:Int) > 20))=true) →(K (zz0,(8:Int)))) ∧(((decide ((p0.2.length:Int) > 20))=false) →(∃ n0,(loopP (fun (y1:Int) k2 => ((((decide (y1 < (p0.2.length:Int)))=true) →((zz0≤y1) ∧((y1 < (p0.2.length:Int)) ∧((((q0_Z9 p0 y1)=false) →((q0_Z9 p0 y1)=(q0_Z9 p0 y1))) ∧((((q0_Z9 p0 y1)=false) →((q0_Z9 p0 y1)=(q0_Z9 p0 y1))) ∧((((q0_Z9 p0 y1)=false) →((q0_Z9 p0 y1)=(q0_Z9 p0 y1))) ∧(((q0_Z9 p0 y1)=(q0_Z9 p0 y1)) ∧((((cond (q0_Z9 p0 y1) true (!(s_Z3 (p0.2.getD y1.toNat (zz0,zz0)).2 (-100000:Int) (100000:Int))))=true) →(K (y1,zz2))) ∧(((cond (q0_Z9 p0 y1) true (!(s_Z3 (p0.2.getD y1.toNat (zz0,zz0)).2 (-100000:Int) (100000:Int))))=false) →((((decide (y1 > zz0))=true) →((decide (y1 > zz0))=(decide (y1 > zz0)))) ∧((((decide (y1 > zz0))=true) →((decide (y1 > zz0))=(decide (y1 > zz0)))) ∧((((decide (y1 > zz0))=true) →((decide (y1 > zz0))=(decide (y1 > zz0)))) ∧((((decide (y1 > zz0))=true) →((decide (y1 > zz0))=(decide (y1 > zz0)))) ∧((((decide (y1 > zz0))=true) →((decide (y1 > zz0))=(decide (y1 > zz0)))) ∧((((decide (y1 > zz0))=true) →(zz0≤(wi (y1 - zz1)))) ∧((((decide (y1 > zz0))=true) →((wi (y1 - zz1)) < (p0.2.length:Int))) ∧((((decide (y1 > zz0))=true) →((decide (y1 > zz0))=(decide (y1 > zz0)))) ∧((((decide (y1 > zz0))=true) →((decide (y1 > zz0))=(decide (y1 > zz0)))) ∧((((decide (y1 > zz0))=true) →((decide (y1 > zz0))=(decide (y1 > zz0)))) ∧((((decide (y1 > zz0))=true) →((decide (y1 > zz0))=(decide (y1 > zz0)))) ∧(((decide (y1 > zz0))=(decide (y1 > zz0))) ∧((((cond (decide (y1 > zz0)) (decide ((p0.2.getD y1.toNat (zz0,zz0)).1≤(p0.2.getD (Int.toNat (wi (y1 - zz1))) (zz0,zz0)).1)) false)=true) →(K (y1,(9:Int)))) ∧(((cond (decide (y1 > zz0)) (decide ((p0.2.getD y1.toNat (zz0,zz0)).1≤(p0.2.getD (Int.toNat (wi (y1 - zz1))) (zz0,zz0)).1)) false)=false) →(k2 (wi (y1 + zz1)))))))))))))))))))))))))) ∧(((decide (y1 < (p0.2.length:Int)))=false) →(K (zz0,zz0))))) n0 zz0))))))))
theorem w_Z9_eq (p0:(Int×(List (Int×Int)))) (K:(Int×Int)→Prop):tfn F_Z9 A_Z9 C_Z9 P_Z9 R_Z9 p0 K = w_Z9 p0 K := by kernel_rfl
def st_Z9_0 (p0:(Int×(List (Int×Int)))) (y3:Int):Int ⊕ (Int×Int) := (cond (decide (y3 < (p0.2.length:Int))) (cond (cond (!(s_Z3 (p0.2.getD y3.toNat (0,0)).1 (0:Int) (1000000000000:Int))) true (!(s_Z3 (p0.2.getD y3.toNat (0,0)).2 (-100000:Int) (100000:Int)))) (Sum.inr (y3,(2:Int))) (cond (cond (decide (y3 > 0)) (decide ((p0.2.getD y3.toNat (0,0)).1≤(p0.2.getD (Int.toNat (IntKind.i64.wrap (y3 - 1))) (0,0)).1)) false) (Sum.inr (y3,(9:Int))) (Sum.inl (IntKind.i64.wrap (y3 + 1))))) (Sum.inr (0,0)))
abbrev sp_Z9_0 (p0:(Int×(List (Int×Int)))) (y3:Int):List Prop := [(((decide (y3 < (p0.2.length:Int)))=true)→((0:Int)≤y3)),(((decide (y3 < (p0.2.length:Int)))=true)→(y3 < (p0.2.length:Int))),(((decide (y3 < (p0.2.length:Int)))=true)→(((cond (!(s_Z3 (p0.2.getD y3.toNat (0,0)).1 (0:Int) (1000000000000:Int))) true (!(s_Z3 (p0.2.getD y3.toNat (0,0)).2 (-100000:Int) (100000:Int))))=false)→(((decide (y3 > 0))=true)→((0:Int)≤(IntKind.i64.wrap (y3 - 1)))))),(((decide (y3 < (p0.2.length:Int)))=true)→(((cond (!(s_Z3 (p0.2.getD y3.toNat (0,0)).1 (0:Int) (1000000000000:Int))) true (!(s_Z3 (p0.2.getD y3.toNat (0,0)).2 (-100000:Int) (100000:Int))))=false)→(((decide (y3 > 0))=true)→((IntKind.i64.wrap (y3 - 1)) < (p0.2.length:Int)))))]
def s_Z9 (p0:(Int×(List (Int×Int)))):(Int×Int) := (cond (!(s_Z3 p0.1 (-100000:Int) (100000:Int))) ((0:Int),(2:Int)) (cond (decide ((p0.2.length:Int) < 2)) ((0:Int),(10:Int)) (cond (decide ((p0.2.length:Int) > 20)) ((0:Int),(8:Int)) (lpv (0,0) (st_Z9_0 p0) (0:Int)))))
abbrev pre_Z9 (p0:(Int×(List (Int×Int)))):List Prop := [(((!(s_Z3 p0.1 (-100000:Int) (100000:Int)))=false)→(((decide ((p0.2.length:Int) < 2))=false)→(((decide ((p0.2.length:Int) > 20))=false)→(OkL (st_Z9_0 p0) (sp_Z9_0 p0) (0:Int)))))]
theorem d_Z9 (p0:(Int×(List (Int×Int)))) (K:(Int×Int)→Prop) (hp:∀ p∈pre_Z9 p0,p) (h:K (s_Z9 p0)):w_Z9 p0 K := by
 unfold w_Z9
 unfold s_Z9 at h
 obtain ⟨hp0,_⟩ := conj_of hp
 exact (br' h (fun e0 h => h)
  (fun e0 h => (br' h (fun e1 h => h)
  (fun e1 h => (br' h (fun e2 h => h)
  (fun e2 h => (loop_gen (hp0 e0 e1 e2) h (fun y3 k3 hp h => by
 unfold st_Z9_0 at h; obtain ⟨hp0,hp1,hp2,hp3,_⟩ := conj_of hp
 exact (br' h (fun e4 h => ⟨(hp0 e4),(hp1 e4),rf,rf,rf,rfl,(br' h (fun e5 h => h)
  (fun e5 h => ⟨rf,rf,rf,rf,rf,(hp2 e4 e5),(hp3 e4 e5),rf,rf,rf,rf,rfl,(br' h (fun e6 h => h)
  (fun e6 h => h))⟩))⟩)
  (fun e4 h => h))))))))))
/-- Whether a point is valid; what is wrong with one of a base station; with a base station. -/
def v_pval (x:gG):Bool := cond (s_Z3 x.1 0 1000000000000) (s_Z3 x.2 (-100000) 100000) false
def v_cb1 (l:gC) (i:Int) (x:gG):Option (Int×Int) := cond (v_pval x) (cond (cond (i == 0) true (decide (x.1 > (l.getD (i - 1).toNat (0,0)).1))) none (some (i,9))) (some (i,2))
def v_cb (b:Int×List (Int×Int)):Int×Int := cond (s_Z3 b.1 (-100000) 100000) (cond (decide ((b.2.length:Int) < 2)) (0,10) (cond (decide ((b.2.length:Int) > 20)) (0,8) (v_scan (v_cb1 b.2) (0,0) 0 b.2))) (0,2)
theorem v_pvalr {x:Int×Int}:cond (!(s_Z3 x.1 0 1000000000000)) true (!(s_Z3 x.2 (-100000) 100000)) = !(v_pval x) := by
 unfold v_pval
 cases s_Z3 x.1 0 1000000000000 <;> cases s_Z3 x.2 (-100000) 100000 <;> rfl
theorem l_Z9_0 (p0:Int×List (Int×Int)) (hl:p0.2.length≤20):OkL (st_Z9_0 p0) (sp_Z9_0 p0) 0∧lpv ((0,0):Int×Int) (st_Z9_0 p0) 0 = v_scan (v_cb1 p0.2) ((0,0):Int×Int) 0 p0.2 := by
 refine scan_is p0.2 (0,0) (v_cb1 p0.2) ((0,0):Int×Int) (lenOk_le hl (by decide)) ?_ ?_
 ·refine ⟨by simp only [sp_Z9_0,fM,decide_eq_true_eq]; simp,by simp [st_Z9_0]⟩
 ·intro j hj
  have hj' : (j:Int) < p0.2.length := by omega
  have hw := wrap_nat (show (j:Int)≤9223372036854775806 by omega)
  have hw2:IntKind.i64.wrap ((j:Int) - 1)=(j:Int) - 1 := wrap_id (by omega) (by omega)
  refine ⟨by simp only [sp_Z9_0,fM,decide_eq_true_eq,Int.toNat_natCast]; rw [hw2]; and_intros <;> first | (intro p hp; cases hp; done) | (intros; first | omega | (simp_all; done) | (simp_all; omega)),?_⟩
  simp only [st_Z9_0,hj',decide_true,Int.toNat_natCast,cond_true,hw,v_pvalr,hw2]
  unfold v_cb1
  cases v_pval (p0.2.getD j (0,0))
  ·rfl
  ·rcases int0 (j:Int) with ⟨hj0,_,z⟩ | ⟨hj0,_,z⟩ <;> rw [z]
   ·rw [decide_eq_false (show ¬ (j:Int) > 0 by omega)]; rfl
   ·rw [decide_eq_true (show (j:Int) > 0 by omega)]
    rcases dec0 (a := (p0.2.getD ((j:Int) - 1).toNat (0,0)).1) (b := (p0.2.getD j (0,0)).1) with ⟨_,c1,c2,c3,c4⟩ | ⟨_,c1,c2,c3,c4⟩ <;> simp only [c3,c4] <;> rfl
abbrev t_Z9 (p0:Int×List (Int×Int)):Int×Int := v_cb p0
abbrev qre_Z9 (_p0:Int×List (Int×Int)):List Prop := []
theorem pp_Z9 (p0:Int×List (Int×Int)) (_hq:∀ p∈qre_Z9 p0,p):∀ p∈pre_Z9 p0,p := by
 simp only [pre_Z9,fM]
 exact ⟨fun _ _ h => (l_Z9_0 p0 (by have := of_decide_eq_false h; omega)).1,by simp⟩
theorem tt_Z9 (p0:Int×List (Int×Int)) (_hq:∀ p∈qre_Z9 p0,p):s_Z9 p0 = t_Z9 p0 := by
 unfold s_Z9 t_Z9 v_cb
 cases s_Z3 p0.1 (-100000) 100000
 ·rfl
 cases decide ((p0.2.length:Int) < 2)
 ·cases h:decide ((p0.2.length:Int) > 20)
  ·rw [(l_Z9_0 p0 (by have := of_decide_eq_false h; omega)).2]; rfl
  ·rfl
 ·rfl

abbrev con_Z9:Con := ⟨P_Z9,R_Z9,fun x => qre_Z9 x,fun x => t_Z9 x⟩
theorem ok_Z9:ConOk Try.prog 64 con_Z9 := okG k_Z9 e_Z9 hC_Z9 fun x hx => tf_of (w_Z9_eq x _) (d_Z9 x _ (pp_Z9 x hx) (tt_Z9 x hx))
def C_Zu:Cons := [(64,[],con_Z9)]
theorem hC_Zu:ConsOk Try.prog C_Zu := cC ok_Z9 <| ConsOk.nil
def w_Zu (p0:(Int×(List (Int×Int)))) (K:Int→Prop):Prop := (K (v_cb p0).2)
theorem w_Zu_eq (p0:(Int×(List (Int×Int)))) (K:Int→Prop):tfn F_Zu A_Zu C_Zu P_Zu R_Zu p0 K = w_Zu p0 K := by kernel_rfl
def s_Zu (p0:(Int×(List (Int×Int)))):Int := (v_cb p0).2
abbrev pre_Zu (_p0:(Int×(List (Int×Int)))):List Prop := []
theorem d_Zu (p0:(Int×(List (Int×Int)))) (K:Int→Prop) (_hp:∀ p∈pre_Zu p0,p) (h:K (s_Zu p0)):w_Zu p0 K := by
 unfold w_Zu
 unfold s_Zu at h
 exact h
abbrev con_Zu:Con := ⟨P_Zu,R_Zu,fun x => pre_Zu x,fun x => s_Zu x⟩
theorem ok_Zu:ConOk Try.prog 15 con_Zu := okG k_Zu e_Zu hC_Zu fun x hx => tf_of (w_Zu_eq x _) (d_Zu x _ hx rfl)
def C_Z6:Cons := []
theorem hC_Z6:ConsOk Try.prog C_Z6 := ConsOk.nil
def w_Z6 (p0:Int) (p1:Int) (p2:Int) (K:Bool→Prop):Prop := ((((decide (p1≤p0))=true) →((decide (p1≤p0))=(decide (p1≤p0)))) ∧((((decide (p1≤p0))=true) →((decide (p1≤p0))=(decide (p1≤p0)))) ∧(((decide (p1≤p0))=(decide (p1≤p0))) ∧(K (cond (decide (p1≤p0)) (decide (p0≤p2)) false)))))
theorem w_Z6_eq (p0:Int) (p1:Int) (p2:Int) (K:Bool→Prop):tfn F_Z6 A_Z6 C_Z6 P_Z6 R_Z6 (p0,p1,p2) K = w_Z6 p0 p1 p2 K := by kernel_rfl
def s_Z6 (p0:Int) (p1:Int) (p2:Int):Bool := (cond (decide (p1≤p0)) (decide (p0≤p2)) false)
abbrev pre_Z6 (_p0:Int) (_p1:Int) (_p2:Int):List Prop := []
theorem d_Z6 (p0:Int) (p1:Int) (p2:Int) (K:Bool→Prop) (_hp:∀ p∈pre_Z6 p0 p1 p2,p) (h:K (s_Z6 p0 p1 p2)):w_Z6 p0 p1 p2 K := by
 unfold w_Z6
 unfold s_Z6 at h
 exact ⟨rf,rf,rfl,h⟩
abbrev con_Z6:Con := ⟨P_Z6,R_Z6,fun x => pre_Z6 x.1 x.2.1 x.2.2,fun x => s_Z6 x.1 x.2.1 x.2.2⟩
theorem ok_Z6:ConOk Try.prog 86 con_Z6 := okG k_Z6 e_Z6 hC_Z6 fun x hx => tf_of (w_Z6_eq x.1 x.2.1 x.2.2 _) (d_Z6 x.1 x.2.1 x.2.2 _ hx rfl)
theorem tx_withinG {n lo hi:Int}:s_Z6 n lo hi = s_Z3 n lo hi := rfl
def C_Zj:Cons := [(86,[],con_Z6)]
theorem hC_Zj:ConsOk Try.prog C_Zj := cC ok_Z6 <| ConsOk.nil
def w_Zj (p0:Int) (p1:Int) (K:Bool→Prop):Prop := (K (s_Z6 p0 (IntKind.i64.wrap (zz0 - p1)) p1))
theorem w_Zj_eq (p0:Int) (p1:Int) (K:Bool→Prop):tfn F_Zj A_Zj C_Zj P_Zj R_Zj (p0,p1) K = w_Zj p0 p1 K := by kernel_rfl
def s_Zj (p0:Int) (p1:Int):Bool := (s_Z6 p0 (IntKind.i64.wrap ((0:Int) - p1)) p1)
abbrev pre_Zj (_p0:Int) (_p1:Int):List Prop := []
theorem d_Zj (p0:Int) (p1:Int) (K:Bool→Prop) (_hp:∀ p∈pre_Zj p0 p1,p) (h:K (s_Zj p0 p1)):w_Zj p0 p1 K := by
 unfold w_Zj
 unfold s_Zj at h
 exact h
abbrev con_Zj:Con := ⟨P_Zj,R_Zj,fun x => pre_Zj x.1 x.2,fun x => s_Zj x.1 x.2⟩
theorem ok_Zj:ConOk Try.prog 83 con_Zj := okG k_Zj e_Zj hC_Zj fun x hx => tf_of (w_Zj_eq x.1 x.2 _) (d_Zj x.1 x.2 _ hx rfl)
def C_Zm:Cons := [(83,[],con_Zj)]
theorem hC_Zm:ConsOk Try.prog C_Zm := cC ok_Zj <| ConsOk.nil
def w_Zm (p0:Int) (K:Bool→Prop):Prop := (K (s_Z6 p0 (-100000:Int) (100000:Int)))
theorem w_Zm_eq (p0:Int) (K:Bool→Prop):tfn F_Zm A_Zm C_Zm P_Zm R_Zm p0 K = w_Zm p0 K := by kernel_rfl
def s_Zm (p0:Int):Bool := (s_Z6 p0 (-100000:Int) (100000:Int))
abbrev pre_Zm (_p0:Int):List Prop := []
theorem d_Zm (p0:Int) (K:Bool→Prop) (_hp:∀ p∈pre_Zm p0,p) (h:K (s_Zm p0)):w_Zm p0 K := by
 unfold w_Zm
 unfold s_Zm at h
 exact h
abbrev con_Zm:Con := ⟨P_Zm,R_Zm,fun x => pre_Zm x,fun x => s_Zm x⟩
theorem ok_Zm:ConOk Try.prog 85 con_Zm := okG k_Zm e_Zm hC_Zm fun x hx => tf_of (w_Zm_eq x _) (d_Zm x _ hx rfl)
def C_Za:Cons := []
theorem hC_Za:ConsOk Try.prog C_Za := ConsOk.nil
def w_Za (p0:gF) (K:Int→Prop):Prop := (∃ n0,(loopP (fun (y1:Int) k2 => ((((decide (y1 < (p0.length:Int)))=true) →((zz0≤y1) ∧((y1 < (p0.length:Int)) ∧(((((p0.getD y1.toNat zz0) != 0)=true) →(K (p0.getD y1.toNat zz0))) ∧((((p0.getD y1.toNat zz0) != 0)=false) →(k2 (IntKind.i64.wrap (y1 + 1)))))))) ∧(((decide (y1 < (p0.length:Int)))=false) →(K zz0)))) n0 zz0))
theorem w_Za_eq (p0:gF) (K:Int→Prop):tfn F_Za A_Za C_Za P_Za R_Za p0 K = w_Za p0 K := by kernel_rfl
def st_Za_0 (p0:gF) (y0:Int):Int ⊕ Int := (cond (decide (y0 < (p0.length:Int))) (cond ((p0.getD y0.toNat (0:Int)) != 0) (Sum.inr (p0.getD y0.toNat (0:Int))) (Sum.inl (IntKind.i64.wrap (y0 + 1)))) (Sum.inr (0:Int)))
abbrev sp_Za_0 (p0:gF) (y0:Int):List Prop := [(((decide (y0 < (p0.length:Int)))=true)→((0:Int)≤y0)),(((decide (y0 < (p0.length:Int)))=true)→(y0 < (p0.length:Int)))]
def s_Za (p0:gF):Int := (lpv (0:Int) (st_Za_0 p0) (0:Int))
abbrev pre_Za (p0:gF):List Prop := [(OkL (st_Za_0 p0) (sp_Za_0 p0) (0:Int))]
theorem d_Za (p0:gF) (K:Int→Prop) (hp:∀ p∈pre_Za p0,p) (h:K (s_Za p0)):w_Za p0 K := by
 unfold w_Za
 unfold s_Za at h
 obtain ⟨hp0,_⟩ := conj_of hp
 exact (loop_gen (hp0) h (fun y0 k0 hp h => by
 unfold st_Za_0 at h; obtain ⟨hp0,hp1,_⟩ := conj_of hp
 exact (br' h (fun e1 h => ⟨(hp0 e1),(hp1 e1),(br' h (fun e2 h => h)
  (fun e2 h => h))⟩)
  (fun e1 h => h))))
theorem l_Za_0 (p0:gF) (hl:lenOk p0):OkL (st_Za_0 p0) (sp_Za_0 p0) 0∧lpv (0:Int) (st_Za_0 p0) 0 = v_scan (fun _ x => cond (x != 0) (some x) none) (0:Int) 0 p0 := by
 refine scan_is p0 0 (fun _ x => cond (x != 0) (some x) none) (0:Int) hl ?_ ?_
 ·refine ⟨by simp only [sp_Za_0,fM,decide_eq_true_eq]; simp,by simp [st_Za_0]⟩
 ·intro j hj
  have hj' : (j:Int) < p0.length := by omega
  refine ⟨by simp only [sp_Za_0,fM,decide_eq_true_eq,Int.toNat_natCast]; simp <;> omega,?_⟩
  simp only [st_Za_0,hj',decide_true,Int.toNat_natCast,cond_true,wrap_nat (show (j:Int)≤9223372036854775806 by unfold lenOk at hl; omega)]
  generalize p0.getD j 0 = x
  cases (x != 0) <;> rfl
abbrev t_Za (p0:gF):Int := v_first p0
abbrev qre_Za (p0:gF):List Prop := [lenOk p0]
theorem pp_Za (p0:gF) (hq:∀ p∈qre_Za p0,p):∀ p∈pre_Za p0,p := by
 simp only [pre_Za,fM]
 exact ⟨(l_Za_0 p0 (conj_of hq).1).1,by simp⟩
theorem tt_Za (p0:gF) (hq:∀ p∈qre_Za p0,p):s_Za p0 = t_Za p0 := by
 exact (l_Za_0 p0 (conj_of hq).1).2.trans (v_first_scan p0 0)

abbrev con_Za:Con := ⟨P_Za,R_Za,fun x => qre_Za x,fun x => t_Za x⟩
theorem ok_Za:ConOk Try.prog 71 con_Za := okG k_Za e_Za hC_Za fun x hx => tf_of (w_Za_eq x _) (d_Za x _ (pp_Za x hx) (tt_Za x hx))
def C_Z8:Cons := []
theorem hC_Z8:ConsOk Try.prog C_Z8 := ConsOk.nil
def w_Z8 (p0:Bool) (p1:Int) (K:Int→Prop):Prop := (((p0 = true) →(K zz0)) ∧((p0 = false) →(K p1)))
theorem w_Z8_eq (p0:Bool) (p1:Int) (K:Int→Prop):tfn F_Z8 A_Z8 C_Z8 P_Z8 R_Z8 (p0,p1) K = w_Z8 p0 p1 K := by kernel_rfl
def s_Z8 (p0:Bool) (p1:Int):Int := (cond p0 (0:Int) p1)
abbrev pre_Z8 (_p0:Bool) (_p1:Int):List Prop := []
theorem d_Z8 (p0:Bool) (p1:Int) (K:Int→Prop) (_hp:∀ p∈pre_Z8 p0 p1,p) (h:K (s_Z8 p0 p1)):w_Z8 p0 p1 K := by
 unfold w_Z8
 unfold s_Z8 at h
 exact (br' h (fun e0 h => h)
  (fun e0 h => h))
abbrev con_Z8:Con := ⟨P_Z8,R_Z8,fun x => pre_Z8 x.1 x.2,fun x => s_Z8 x.1 x.2⟩
theorem ok_Z8:ConOk Try.prog 66 con_Z8 := okG k_Z8 e_Z8 hC_Z8 fun x hx => tf_of (w_Z8_eq x.1 x.2 _) (d_Z8 x.1 x.2 _ hx rfl)
theorem tx_unless {a:Bool} {x:Int}:s_Z8 a x = cond a 0 x := by cases a <;> rfl
structure v_ser (l:gF):Prop where
 ne:0 < l.length
 len:l.length≤40
 ok:∀ x∈l,-100000≤x∧x≤100000
def C_Zs:Cons := [(17,[],con_Z3)]
theorem hC_Zs:ConsOk Try.prog C_Zs := cC ok_Z3 <| ConsOk.nil
def w_Zs (p0:Int) (K:Bool→Prop):Prop := (K (s_Z3 p0 (-10:Int) (10:Int)))
theorem w_Zs_eq (p0:Int) (K:Bool→Prop):tfn F_Zs A_Zs C_Zs P_Zs R_Zs p0 K = w_Zs p0 K := by kernel_rfl
def s_Zs (p0:Int):Bool := (s_Z3 p0 (-10:Int) (10:Int))
abbrev pre_Zs (_p0:Int):List Prop := []
theorem d_Zs (p0:Int) (K:Bool→Prop) (_hp:∀ p∈pre_Zs p0,p) (h:K (s_Zs p0)):w_Zs p0 K := by
 unfold w_Zs
 unfold s_Zs at h
 exact h
abbrev con_Zs:Con := ⟨P_Zs,R_Zs,fun x => pre_Zs x,fun x => s_Zs x⟩
theorem ok_Zs:ConOk Try.prog 89 con_Zs := okG k_Zs e_Zs hC_Zs fun x hx => tf_of (w_Zs_eq x _) (d_Zs x _ hx rfl)
def C_Z5:Cons := [(88,[],con_Zp),(89,[],con_Zs),(90,[],con_Zq)]
theorem hC_Z5:ConsOk Try.prog C_Z5 := cC ok_Zp <| cC ok_Zs <| cC ok_Zq <| ConsOk.nil
abbrev q3_Z5 (p0:(List (Int×(Int×(Int×(Int×Int)))))) (y1:Int) := (!(s_Z3 (p0.getD y1.toNat (zz0,(zz0,(zz0,(zz0,zz0))))).1 zz0 (1000000000000:Int)))
abbrev q1_Z5 (p0:(List (Int×(Int×(Int×(Int×Int)))))) (y1:Int) := (cond (q3_Z5 p0 y1) true (!(s_Z3 (p0.getD y1.toNat (zz0,(zz0,(zz0,(zz0,zz0))))).2.1 (-10:Int) (10:Int))))
abbrev q0_Z5 (p0:(List (Int×(Int×(Int×(Int×Int)))))) (y1:Int) := (cond (q1_Z5 p0 y1) true (!(s_Z3 (p0.getD y1.toNat (zz0,(zz0,(zz0,(zz0,zz0))))).2.2.1 (-10:Int) (10:Int))))
abbrev q2_Z5 (p0:(List (Int×(Int×(Int×(Int×Int)))))) (y1:Int) := (cond (q0_Z5 p0 y1) true (!(s_Z3 (p0.getD y1.toNat (zz0,(zz0,(zz0,(zz0,zz0))))).2.2.2.1 (-10:Int) (10:Int))))
def w_Z5 (p0:(List (Int×(Int×(Int×(Int×Int)))))) (K:(Int×Int)→Prop):Prop := (((((p0.length:Int) == zz0)=true) →(K (zz0,(10:Int)))) ∧((((p0.length:Int) == zz0)=false) →((((decide ((p0.length:Int) > 20))=true) →(K (zz0,(8:Int)))) ∧(((decide ((p0.length:Int) > 20))=false) →(∃ n0,(loopP (fun (y1:Int) k2 => ((((decide (y1 < (p0.length:Int)))=true) →((zz0≤y1) ∧((y1 < (p0.length:Int)) ∧((((q3_Z5 p0 y1)=false) →((q3_Z5 p0 y1)=(q3_Z5 p0 y1))) ∧((((q3_Z5 p0 y1)=false) →((q3_Z5 p0 y1)=(q3_Z5 p0 y1))) ∧((((q3_Z5 p0 y1)=false) →((q3_Z5 p0 y1)=(q3_Z5 p0 y1))) ∧(((q3_Z5 p0 y1)=(q3_Z5 p0 y1)) ∧((((q1_Z5 p0 y1)=false) →((q1_Z5 p0 y1)=(q1_Z5 p0 y1))) ∧((((q1_Z5 p0 y1)=false) →((q1_Z5 p0 y1)=(q1_Z5 p0 y1))) ∧((((q1_Z5 p0 y1)=false) →((q1_Z5 p0 y1)=(q1_Z5 p0 y1))) ∧(((q1_Z5 p0 y1)=(q1_Z5 p0 y1)) ∧((((q0_Z5 p0 y1)=false) →((q0_Z5 p0 y1)=(q0_Z5 p0 y1))) ∧((((q0_Z5 p0 y1)=false) →((q0_Z5 p0 y1)=(q0_Z5 p0 y1))) ∧((((q0_Z5 p0 y1)=false) →((q0_Z5 p0 y1)=(q0_Z5 p0 y1))) ∧(((q0_Z5 p0 y1)=(q0_Z5 p0 y1)) ∧((((q2_Z5 p0 y1)=false) →((q2_Z5 p0 y1)=(q2_Z5 p0 y1))) ∧((((q2_Z5 p0 y1)=false) →((q2_Z5 p0 y1)=(q2_Z5 p0 y1))) ∧((((q2_Z5 p0 y1)=false) →((q2_Z5 p0 y1)=(q2_Z5 p0 y1))) ∧(((q2_Z5 p0 y1)=(q2_Z5 p0 y1)) ∧((((cond (q2_Z5 p0 y1) true (!(s_Z3 (p0.getD y1.toNat (zz0,(zz0,(zz0,(zz0,zz0))))).2.2.2.2 (-100000:Int) (100000:Int))))=true) →(K (y1,zz2))) ∧(((cond (q2_Z5 p0 y1) true (!(s_Z3 (p0.getD y1.toNat (zz0,(zz0,(zz0,(zz0,zz0))))).2.2.2.2 (-100000:Int) (100000:Int))))=false) →((((decide (y1 > zz0))=true) →((decide (y1 > zz0))=(decide (y1 > zz0)))) ∧((((decide (y1 > zz0))=true) →((decide (y1 > zz0))=(decide (y1 > zz0)))) ∧((((decide (y1 > zz0))=true) →((decide (y1 > zz0))=(decide (y1 > zz0)))) ∧((((decide (y1 > zz0))=true) →((decide (y1 > zz0))=(decide (y1 > zz0)))) ∧((((decide (y1 > zz0))=true) →(zz0≤(wi (y1 - zz1)))) ∧((((decide (y1 > zz0))=true) →((wi (y1 - zz1)) < (p0.length:Int))) ∧((((decide (y1 > zz0))=true) →((decide (y1 > zz0))=(decide (y1 > zz0)))) ∧((((decide (y1 > zz0))=true) →((decide (y1 > zz0))=(decide (y1 > zz0)))) ∧((((decide (y1 > zz0))=true) →((decide (y1 > zz0))=(decide (y1 > zz0)))) ∧((((decide (y1 > zz0))=true) →((decide (y1 > zz0))=(decide (y1 > zz0)))) ∧(((decide (y1 > zz0))=(decide (y1 > zz0))) ∧((((cond (decide (y1 > zz0)) (decide ((p0.getD y1.toNat (zz0,(zz0,(zz0,(zz0,zz0))))).1≤(p0.getD (Int.toNat (wi (y1 - zz1))) (zz0,(zz0,(zz0,(zz0,zz0))))).1)) false)=true) →(K (y1,(9:Int)))) ∧(((cond (decide (y1 > zz0)) (decide ((p0.getD y1.toNat (zz0,(zz0,(zz0,(zz0,zz0))))).1≤(p0.getD (Int.toNat (wi (y1 - zz1))) (zz0,(zz0,(zz0,(zz0,zz0))))).1)) false)=false) →(k2 (wi (y1 + zz1))))))))))))))))))))))))))))))))))))) ∧(((decide (y1 < (p0.length:Int)))=false) →(K (zz0,zz0))))) n0 zz0))))))
theorem w_Z5_eq (p0:(List (Int×(Int×(Int×(Int×Int)))))) (K:(Int×Int)→Prop):tfn F_Z5 A_Z5 C_Z5 P_Z5 R_Z5 p0 K = w_Z5 p0 K := by kernel_rfl
def st_Z5_0 (p0:(List (Int×(Int×(Int×(Int×Int)))))) (y2:Int):Int ⊕ (Int×Int) := (cond (decide (y2 < (p0.length:Int))) (cond (cond (cond (cond (cond (!(s_Z3 (p0.getD y2.toNat ((0:Int),((0:Int),((0:Int),(0,0))))).1 (0:Int) (1000000000000:Int))) true (!(s_Z3 (p0.getD y2.toNat ((0:Int),((0:Int),((0:Int),(0,0))))).2.1 (-10:Int) (10:Int)))) true (!(s_Z3 (p0.getD y2.toNat ((0:Int),((0:Int),((0:Int),(0,0))))).2.2.1 (-10:Int) (10:Int)))) true (!(s_Z3 (p0.getD y2.toNat ((0:Int),((0:Int),((0:Int),(0,0))))).2.2.2.1 (-10:Int) (10:Int)))) true (!(s_Z3 (p0.getD y2.toNat ((0:Int),((0:Int),((0:Int),(0,0))))).2.2.2.2 (-100000:Int) (100000:Int)))) (Sum.inr (y2,(2:Int))) (cond (cond (decide (y2 > 0)) (decide ((p0.getD y2.toNat ((0:Int),((0:Int),((0:Int),(0,0))))).1≤(p0.getD (Int.toNat (IntKind.i64.wrap (y2 - 1))) ((0:Int),((0:Int),((0:Int),(0,0))))).1)) false) (Sum.inr (y2,(9:Int))) (Sum.inl (IntKind.i64.wrap (y2 + 1))))) (Sum.inr (0,0)))
abbrev sp_Z5_0 (p0:(List (Int×(Int×(Int×(Int×Int)))))) (y2:Int):List Prop := [(((decide (y2 < (p0.length:Int)))=true)→((0:Int)≤y2)),(((decide (y2 < (p0.length:Int)))=true)→(y2 < (p0.length:Int))),(((decide (y2 < (p0.length:Int)))=true)→(((cond (cond (cond (cond (!(s_Z3 (p0.getD y2.toNat ((0:Int),((0:Int),((0:Int),(0,0))))).1 (0:Int) (1000000000000:Int))) true (!(s_Z3 (p0.getD y2.toNat ((0:Int),((0:Int),((0:Int),(0,0))))).2.1 (-10:Int) (10:Int)))) true (!(s_Z3 (p0.getD y2.toNat ((0:Int),((0:Int),((0:Int),(0,0))))).2.2.1 (-10:Int) (10:Int)))) true (!(s_Z3 (p0.getD y2.toNat ((0:Int),((0:Int),((0:Int),(0,0))))).2.2.2.1 (-10:Int) (10:Int)))) true (!(s_Z3 (p0.getD y2.toNat ((0:Int),((0:Int),((0:Int),(0,0))))).2.2.2.2 (-100000:Int) (100000:Int))))=false)→(((decide (y2 > 0))=true)→((0:Int)≤(IntKind.i64.wrap (y2 - 1)))))),(((decide (y2 < (p0.length:Int)))=true)→(((cond (cond (cond (cond (!(s_Z3 (p0.getD y2.toNat ((0:Int),((0:Int),((0:Int),(0,0))))).1 (0:Int) (1000000000000:Int))) true (!(s_Z3 (p0.getD y2.toNat ((0:Int),((0:Int),((0:Int),(0,0))))).2.1 (-10:Int) (10:Int)))) true (!(s_Z3 (p0.getD y2.toNat ((0:Int),((0:Int),((0:Int),(0,0))))).2.2.1 (-10:Int) (10:Int)))) true (!(s_Z3 (p0.getD y2.toNat ((0:Int),((0:Int),((0:Int),(0,0))))).2.2.2.1 (-10:Int) (10:Int)))) true (!(s_Z3 (p0.getD y2.toNat ((0:Int),((0:Int),((0:Int),(0,0))))).2.2.2.2 (-100000:Int) (100000:Int))))=false)→(((decide (y2 > 0))=true)→((IntKind.i64.wrap (y2 - 1)) < (p0.length:Int)))))]
def s_Z5 (p0:(List (Int×(Int×(Int×(Int×Int)))))):(Int×Int) := (cond ((p0.length:Int) == 0) ((0:Int),(10:Int)) (cond (decide ((p0.length:Int) > 20)) ((0:Int),(8:Int)) (lpv (0,0) (st_Z5_0 p0) (0:Int))))
abbrev pre_Z5 (p0:(List (Int×(Int×(Int×(Int×Int)))))):List Prop := [((((p0.length:Int) == 0)=false)→(((decide ((p0.length:Int) > 20))=false)→(OkL (st_Z5_0 p0) (sp_Z5_0 p0) (0:Int))))]
theorem d_Z5 (p0:(List (Int×(Int×(Int×(Int×Int)))))) (K:(Int×Int)→Prop) (hp:∀ p∈pre_Z5 p0,p) (h:K (s_Z5 p0)):w_Z5 p0 K := by
 unfold w_Z5
 unfold s_Z5 at h
 obtain ⟨hp0,_⟩ := conj_of hp
 exact (br' h (fun e0 h => h)
  (fun e0 h => (br' h (fun e1 h => h)
  (fun e1 h => (loop_gen (hp0 e0 e1) h (fun y2 k2 hp h => by
 unfold st_Z5_0 at h; obtain ⟨hp0,hp1,hp2,hp3,_⟩ := conj_of hp
 exact (br' h (fun e3 h => ⟨(hp0 e3),(hp1 e3),rf,rf,rf,rfl,rf,rf,rf,rfl,rf,rf,rf,rfl,rf,rf,rf,rfl,(br' h (fun e4 h => h)
  (fun e4 h => ⟨rf,rf,rf,rf,(hp2 e3 e4),(hp3 e3 e4),rf,rf,rf,rf,rfl,(br' h (fun e5 h => h)
  (fun e5 h => h))⟩))⟩)
  (fun e3 h => h))))))))
/-- Whether a sample is valid; what is wrong with one of samples; with samples. -/
def v_sval (x:Int×Int×Int×Int×Int):Bool := cond (s_Z3 x.1 0 1000000000000) (cond (s_Z3 x.2.1 (-10) 10) (cond (s_Z3 x.2.2.1 (-10) 10) (cond (s_Z3 x.2.2.2.1 (-10) 10) (s_Z3 x.2.2.2.2 (-100000) 100000) false) false) false) false
def v_cs1 (l:List (Int×Int×Int×Int×Int)) (i:Int) (x:Int×Int×Int×Int×Int):Option (Int×Int) := cond (v_sval x) (cond (cond (i == 0) true (decide (x.1 > (l.getD (i - 1).toNat (0,0,0,0,0)).1))) none (some (i,9))) (some (i,2))
def v_cs (l:List (Int×Int×Int×Int×Int)):Int×Int := cond ((l.length:Int) == 0) (0,10) (cond (decide ((l.length:Int) > 20)) (0,8) (v_scan (v_cs1 l) (0,0) 0 l))
theorem v_svalr {x:Int×Int×Int×Int×Int}:cond (cond (cond (cond (!(s_Z3 x.1 0 1000000000000)) true (!(s_Z3 x.2.1 (-10) 10))) true (!(s_Z3 x.2.2.1 (-10) 10))) true (!(s_Z3 x.2.2.2.1 (-10) 10))) true (!(s_Z3 x.2.2.2.2 (-100000) 100000)) = !(v_sval x) := by
 unfold v_sval
 cases s_Z3 x.1 0 1000000000000 <;> cases s_Z3 x.2.1 (-10) 10 <;> cases s_Z3 x.2.2.1 (-10) 10 <;> cases s_Z3 x.2.2.2.1 (-10) 10 <;> cases s_Z3 x.2.2.2.2 (-100000) 100000 <;> rfl
theorem l_Z5_0 (p0:List (Int×Int×Int×Int×Int)) (hl:p0.length≤20):OkL (st_Z5_0 p0) (sp_Z5_0 p0) 0∧lpv ((0,0):Int×Int) (st_Z5_0 p0) 0 = v_scan (v_cs1 p0) ((0,0):Int×Int) 0 p0 := by
 refine scan_is p0 (0,0,0,0,0) (v_cs1 p0) ((0,0):Int×Int) (lenOk_le hl (by decide)) ?_ ?_
 ·refine ⟨by simp only [sp_Z5_0,fM,decide_eq_true_eq]; simp,by simp [st_Z5_0]⟩
 ·intro j hj
  have hj' : (j:Int) < p0.length := by omega
  have hw := wrap_nat (show (j:Int)≤9223372036854775806 by omega)
  have hw2:IntKind.i64.wrap ((j:Int) - 1)=(j:Int) - 1 := wrap_id (by omega) (by omega)
  refine ⟨by simp only [sp_Z5_0,fM,decide_eq_true_eq,Int.toNat_natCast]; rw [hw2]; and_intros <;> first | (intro p hp; cases hp; done) | (intros; first | omega | (simp_all; done) | (simp_all; omega)),?_⟩
  simp only [st_Z5_0,hj',decide_true,Int.toNat_natCast,cond_true,hw,s_Zp,s_Zs,s_Zq,v_svalr,hw2]
  unfold v_cs1
  cases v_sval (p0.getD j (0,0,0,0,0))
  ·rfl
  ·rcases int0 (j:Int) with ⟨hj0,_,z⟩ | ⟨hj0,_,z⟩ <;> rw [z]
   ·rw [decide_eq_false (show ¬ (j:Int) > 0 by omega)]; rfl
   ·rw [decide_eq_true (show (j:Int) > 0 by omega)]
    rcases dec0 (a := (p0.getD ((j:Int) - 1).toNat (0,0,0,0,0)).1) (b := (p0.getD j (0,0,0,0,0)).1) with ⟨_,c1,c2,c3,c4⟩ | ⟨_,c1,c2,c3,c4⟩ <;> simp only [c3,c4] <;> rfl
abbrev t_Z5 (p0:List (Int×Int×Int×Int×Int)):Int×Int := v_cs p0
abbrev qre_Z5 (_p0:List (Int×Int×Int×Int×Int)):List Prop := []
theorem pp_Z5 (p0:List (Int×Int×Int×Int×Int)) (_hq:∀ p∈qre_Z5 p0,p):∀ p∈pre_Z5 p0,p := by
 simp only [pre_Z5,fM]
 exact ⟨fun _ h => (l_Z5_0 p0 (by have := of_decide_eq_false h; omega)).1,by simp⟩
theorem tt_Z5 (p0:List (Int×Int×Int×Int×Int)) (_hq:∀ p∈qre_Z5 p0,p):s_Z5 p0 = t_Z5 p0 := by
 unfold s_Z5 t_Z5 v_cs
 cases h:decide ((p0.length:Int) > 20)
 ·rw [(l_Z5_0 p0 (by have := of_decide_eq_false h; omega)).2]
 ·rfl

abbrev con_Z5:Con := ⟨P_Z5,R_Z5,fun x => qre_Z5 x,fun x => t_Z5 x⟩
theorem ok_Z5:ConOk Try.prog 34 con_Z5 := okG k_Z5 e_Z5 hC_Z5 fun x hx => tf_of (w_Z5_eq x _) (d_Z5 x _ (pp_Z5 x hx) (tt_Z5 x hx))
def C_Zl:Cons := [(86,[],con_Z6)]
theorem hC_Zl:ConsOk Try.prog C_Zl := cC ok_Z6 <| ConsOk.nil
def w_Zl (p0:Int) (K:Bool→Prop):Prop := (K (s_Z6 p0 zz0 (1000000000000:Int)))
theorem w_Zl_eq (p0:Int) (K:Bool→Prop):tfn F_Zl A_Zl C_Zl P_Zl R_Zl p0 K = w_Zl p0 K := by kernel_rfl
def s_Zl (p0:Int):Bool := (s_Z6 p0 (0:Int) (1000000000000:Int))
abbrev pre_Zl (_p0:Int):List Prop := []
theorem d_Zl (p0:Int) (K:Bool→Prop) (_hp:∀ p∈pre_Zl p0,p) (h:K (s_Zl p0)):w_Zl p0 K := by
 unfold w_Zl
 unfold s_Zl at h
 exact h
abbrev con_Zl:Con := ⟨P_Zl,R_Zl,fun x => pre_Zl x,fun x => s_Zl x⟩
theorem ok_Zl:ConOk Try.prog 84 con_Zl := okG k_Zl e_Zl hC_Zl fun x hx => tf_of (w_Zl_eq x _) (d_Zl x _ hx rfl)
def C_Zo:Cons := [(83,[],con_Zj)]
theorem hC_Zo:ConsOk Try.prog C_Zo := cC ok_Zj <| ConsOk.nil
def w_Zo (p0:Int) (K:Bool→Prop):Prop := (K (s_Z6 p0 (-10:Int) (10:Int)))
theorem w_Zo_eq (p0:Int) (K:Bool→Prop):tfn F_Zo A_Zo C_Zo P_Zo R_Zo p0 K = w_Zo p0 K := by kernel_rfl
def s_Zo (p0:Int):Bool := (s_Z6 p0 (-10:Int) (10:Int))
abbrev pre_Zo (_p0:Int):List Prop := []
theorem d_Zo (p0:Int) (K:Bool→Prop) (_hp:∀ p∈pre_Zo p0,p) (h:K (s_Zo p0)):w_Zo p0 K := by
 unfold w_Zo
 unfold s_Zo at h
 exact h
abbrev con_Zo:Con := ⟨P_Zo,R_Zo,fun x => pre_Zo x,fun x => s_Zo x⟩
theorem ok_Zo:ConOk Try.prog 82 con_Zo := okG k_Zo e_Zo hC_Zo fun x hx => tf_of (w_Zo_eq x _) (d_Zo x _ hx rfl)
def C_Z4:Cons := [(66,[],con_Z8),(71,[],con_Za),(84,[],con_Zl),(82,[],con_Zo),(85,[],con_Zm)]
theorem hC_Z4:ConsOk Try.prog C_Z4 := cC ok_Z8 <| cC ok_Za <| cC ok_Zl <| cC ok_Zo <| cC ok_Zm <| ConsOk.nil
abbrev q1_Z4 (p0:(List (Int×(Int×(Int×(Int×Int)))))) (y1:gG) := (p0.getD y1.1.toNat (zz0,(zz0,(zz0,(zz0,zz0)))))
abbrev q6_Z4 (p0:(List (Int×(Int×(Int×(Int×Int)))))) (y1:gG) := (s_Z6 (q1_Z4 p0 y1).1 zz0 (1000000000000:Int))
abbrev q2_Z4 (p0:(List (Int×(Int×(Int×(Int×Int)))))) (y1:gG) := (cond (q6_Z4 p0 y1) (s_Z6 (q1_Z4 p0 y1).2.1 (-10:Int) (10:Int)) false)
abbrev q0_Z4 (p0:(List (Int×(Int×(Int×(Int×Int)))))) (y1:gG) := (cond (q2_Z4 p0 y1) (s_Z6 (q1_Z4 p0 y1).2.2.1 (-10:Int) (10:Int)) false)
abbrev q4_Z4 (p0:(List (Int×(Int×(Int×(Int×Int)))))) (y1:gG) := (cond (q0_Z4 p0 y1) (s_Z6 (q1_Z4 p0 y1).2.2.2.1 (-10:Int) (10:Int)) false)
abbrev q3_Z4 (p0:(List (Int×(Int×(Int×(Int×Int)))))) (y1:gG) := ((s_Z8 (cond (q4_Z4 p0 y1) (s_Z6 (q1_Z4 p0 y1).2.2.2.2 (-100000:Int) (100000:Int)) false) zz2) :: ((s_Z8 (decide ((q1_Z4 p0 y1).1 > y1.2)) (9:Int)) :: ([]:List Int)))
abbrev q5_Z4 (p0:(List (Int×(Int×(Int×(Int×Int)))))) := ((s_Z8 (decide ((p0.length:Int) > zz0)) (10:Int)) :: ((s_Z8 (decide ((p0.length:Int)≤20)) (8:Int)) :: ([]:List Int)))
def w_Z4 (p0:(List (Int×(Int×(Int×(Int×Int)))))) (K:(Int×Int)→Prop):Prop := ((lenOk (q5_Z4 p0)) ∧(((((v_first (q5_Z4 p0)) != zz0)=true) →(K (zz0,(v_first (q5_Z4 p0))))) ∧((((v_first (q5_Z4 p0)) != zz0)=false) →(∃ n0,(loopP (fun (y1:gG) k2 => ((((decide (y1.1 < (p0.length:Int)))=true) →((zz0≤y1.1) ∧((y1.1 < (p0.length:Int)) ∧((((q6_Z4 p0 y1)=true) →((q6_Z4 p0 y1)=(q6_Z4 p0 y1))) ∧((((q6_Z4 p0 y1)=true) →((q6_Z4 p0 y1)=(q6_Z4 p0 y1))) ∧((((q6_Z4 p0 y1)=true) →((q6_Z4 p0 y1)=(q6_Z4 p0 y1))) ∧(((q6_Z4 p0 y1)=(q6_Z4 p0 y1)) ∧((((q2_Z4 p0 y1)=true) →((q2_Z4 p0 y1)=(q2_Z4 p0 y1))) ∧((((q2_Z4 p0 y1)=true) →((q2_Z4 p0 y1)=(q2_Z4 p0 y1))) ∧((((q2_Z4 p0 y1)=true) →((q2_Z4 p0 y1)=(q2_Z4 p0 y1))) ∧(((q2_Z4 p0 y1)=(q2_Z4 p0 y1)) ∧((((q0_Z4 p0 y1)=true) →((q0_Z4 p0 y1)=(q0_Z4 p0 y1))) ∧((((q0_Z4 p0 y1)=true) →((q0_Z4 p0 y1)=(q0_Z4 p0 y1))) ∧((((q0_Z4 p0 y1)=true) →((q0_Z4 p0 y1)=(q0_Z4 p0 y1))) ∧(((q0_Z4 p0 y1)=(q0_Z4 p0 y1)) ∧((((q4_Z4 p0 y1)=true) →((q4_Z4 p0 y1)=(q4_Z4 p0 y1))) ∧((((q4_Z4 p0 y1)=true) →((q4_Z4 p0 y1)=(q4_Z4 p0 y1))) ∧(((q4_Z4 p0 y1)=(q4_Z4 p0 y1)) ∧((lenOk (q3_Z4 p0 y1)) ∧(((((v_first (q3_Z4 p0 y1)) != zz0)=true) →(K (y1.1,(v_first (q3_Z4 p0 y1))))) ∧((((v_first (q3_Z4 p0 y1)) != zz0)=false) →(k2 ((wi (y1.1 + zz1)),(q1_Z4 p0 y1).1))))))))))))))))))))))) ∧(((decide (y1.1 < (p0.length:Int)))=false) →(K (zz0,zz0))))) n0 (zz0,(-1:Int)))))))
theorem w_Z4_eq (p0:(List (Int×(Int×(Int×(Int×Int)))))) (K:(Int×Int)→Prop):tfn F_Z4 A_Z4 C_Z4 P_Z4 R_Z4 p0 K = w_Z4 p0 K := by kernel_rfl
def st_Z4_0 (p0:(List (Int×(Int×(Int×(Int×Int)))))) (y1:gG):(Int×Int) ⊕ (Int×Int) := (cond (decide (y1.1 < (p0.length:Int))) (cond ((v_first ((s_Z8 (cond (cond (cond (cond (s_Z6 (p0.getD y1.1.toNat ((0:Int),((0:Int),((0:Int),(0,0))))).1 (0:Int) (1000000000000:Int)) (s_Z6 (p0.getD y1.1.toNat ((0:Int),((0:Int),((0:Int),(0,0))))).2.1 (-10:Int) (10:Int)) false) (s_Z6 (p0.getD y1.1.toNat ((0:Int),((0:Int),((0:Int),(0,0))))).2.2.1 (-10:Int) (10:Int)) false) (s_Z6 (p0.getD y1.1.toNat ((0:Int),((0:Int),((0:Int),(0,0))))).2.2.2.1 (-10:Int) (10:Int)) false) (s_Z6 (p0.getD y1.1.toNat ((0:Int),((0:Int),((0:Int),(0,0))))).2.2.2.2 (-100000:Int) (100000:Int)) false) (2:Int)) :: ((s_Z8 (decide ((p0.getD y1.1.toNat ((0:Int),((0:Int),((0:Int),(0,0))))).1 > y1.2)) (9:Int)) :: ([]:List Int)))) != 0) (Sum.inr (y1.1,(v_first ((s_Z8 (cond (cond (cond (cond (s_Z6 (p0.getD y1.1.toNat ((0:Int),((0:Int),((0:Int),(0,0))))).1 (0:Int) (1000000000000:Int)) (s_Z6 (p0.getD y1.1.toNat ((0:Int),((0:Int),((0:Int),(0,0))))).2.1 (-10:Int) (10:Int)) false) (s_Z6 (p0.getD y1.1.toNat ((0:Int),((0:Int),((0:Int),(0,0))))).2.2.1 (-10:Int) (10:Int)) false) (s_Z6 (p0.getD y1.1.toNat ((0:Int),((0:Int),((0:Int),(0,0))))).2.2.2.1 (-10:Int) (10:Int)) false) (s_Z6 (p0.getD y1.1.toNat ((0:Int),((0:Int),((0:Int),(0,0))))).2.2.2.2 (-100000:Int) (100000:Int)) false) (2:Int)) :: ((s_Z8 (decide ((p0.getD y1.1.toNat ((0:Int),((0:Int),((0:Int),(0,0))))).1 > y1.2)) (9:Int)) :: ([]:List Int)))))) (Sum.inl ((IntKind.i64.wrap (y1.1 + 1)),(p0.getD y1.1.toNat ((0:Int),((0:Int),((0:Int),(0,0))))).1))) (Sum.inr (0,0)))
abbrev sp_Z4_0 (p0:(List (Int×(Int×(Int×(Int×Int)))))) (y1:gG):List Prop := [(((decide (y1.1 < (p0.length:Int)))=true)→((0:Int)≤y1.1)),(((decide (y1.1 < (p0.length:Int)))=true)→(y1.1 < (p0.length:Int)))]
def s_Z4 (p0:(List (Int×(Int×(Int×(Int×Int)))))):(Int×Int) := (cond ((v_first ((s_Z8 (decide ((p0.length:Int) > 0)) (10:Int)) :: ((s_Z8 (decide ((p0.length:Int)≤20)) (8:Int)) :: ([]:List Int)))) != 0) ((0:Int),(v_first ((s_Z8 (decide ((p0.length:Int) > 0)) (10:Int)) :: ((s_Z8 (decide ((p0.length:Int)≤20)) (8:Int)) :: ([]:List Int))))) (lpv (0,0) (st_Z4_0 p0) ((0:Int),(-1:Int))))
abbrev pre_Z4 (p0:(List (Int×(Int×(Int×(Int×Int)))))):List Prop := [((((v_first ((s_Z8 (decide ((p0.length:Int) > 0)) (10:Int)) :: ((s_Z8 (decide ((p0.length:Int)≤20)) (8:Int)) :: ([]:List Int)))) != 0)=false)→(OkL (st_Z4_0 p0) (sp_Z4_0 p0) ((0:Int),(-1:Int))))]
theorem d_Z4 (p0:(List (Int×(Int×(Int×(Int×Int)))))) (K:(Int×Int)→Prop) (hp:∀ p∈pre_Z4 p0,p) (h:K (s_Z4 p0)):w_Z4 p0 K := by
 unfold w_Z4
 unfold s_Z4 at h
 obtain ⟨hp0,_⟩ := conj_of hp
 exact ⟨(lenOk_of 2 rfl (by decide)),(br' h (fun e0 h => h)
  (fun e0 h => (loop_gen (hp0 e0) h (fun y1 k1 hp h => by
 unfold st_Z4_0 at h; obtain ⟨hp0,hp1,_⟩ := conj_of hp
 exact (br' h (fun e2 h => ⟨(hp0 e2),(hp1 e2),rf,rf,rf,rfl,rf,rf,rf,rfl,rf,rf,rf,rfl,rf,rf,rfl,(lenOk_of 2 rfl (by decide)),(br' h (fun e3 h => h)
  (fun e3 h => h))⟩)
  (fun e2 h => h))))))⟩
theorem tx_first2 {x y:Int}:v_first [x,y]=cond (x != 0) x y := by
 simp only [v_first]
 cases h:(x != 0)
 ·cases h2:(y != 0)
  ·simp at h2; subst h2; rfl
  ·rfl
 ·rfl
theorem tx_csh {n:Int} (h:0≤n):v_first [s_Z8 (decide (n > 0)) 10,s_Z8 (decide (n≤20)) 8]=cond (n == 0) 10 (cond (decide (n > 20)) 8 0) := by
 unfold s_Z8
 rcases int0 n with ⟨h0,_,e0⟩ | ⟨h0,_,e0⟩
 ·subst h0; rfl
 ·rw [e0,decide_eq_true (show n > 0 by omega)]
  rcases dec0 (a := 20) (b := n) with ⟨_,_,_,e1,e2⟩ | ⟨_,_,_,e1,e2⟩ <;> rw [e1,e2] <;> rfl
theorem tx_len {p0:List (Int×Int×Int×Int×Int)} (h:(v_first [s_Z8 (decide ((p0.length:Int) > 0)) 10,s_Z8 (decide ((p0.length:Int)≤20)) 8] != 0)=false):p0.length≤20 := by
 rw [tx_csh (by omega)] at h
 cases c:decide ((p0.length:Int) > 20)
 ·have := of_decide_eq_false c; omega
 ·rw [c] at h
  cases c2:((p0.length:Int) == 0) <;> rw [c2] at h <;> cases h
theorem v_svalm {x:Int×Int×Int×Int×Int}:cond (cond (cond (cond (s_Z6 x.1 0 1000000000000) (s_Z6 x.2.1 (-10) 10) false) (s_Z6 x.2.2.1 (-10) 10) false) (s_Z6 x.2.2.2.1 (-10) 10) false) (s_Z6 x.2.2.2.2 (-100000) 100000) false = v_sval x := by
 rw [tx_withinG,tx_withinG,tx_withinG,tx_withinG,tx_withinG]
 unfold v_sval
 cases s_Z3 x.1 0 1000000000000 <;> cases s_Z3 x.2.1 (-10) 10 <;> cases s_Z3 x.2.2.1 (-10) 10 <;> cases s_Z3 x.2.2.2.1 (-10) 10 <;> rfl
theorem v_sval_t {x:Int×Int×Int×Int×Int} (h:v_sval x = true):0≤x.1 := by
 unfold v_sval at h
 cases c:s_Z3 x.1 0 1000000000000
 ·rw [c] at h; cases h
 ·exact (tx_within.1 c).1
theorem l_Z4_0 (p0:List (Int×Int×Int×Int×Int)) (hl:p0.length≤20):OkL (st_Z4_0 p0) (sp_Z4_0 p0) (0,-1)∧lpv ((0,0):Int×Int) (st_Z4_0 p0) (0,-1)=v_scan (v_cs1 p0) ((0,0):Int×Int) 0 p0 := by
 refine @for_is Int (Int×Int) (Int×Int) (0,0) (st_Z4_0 p0) (sp_Z4_0 p0) (fun i t => (i,t)) 0 p0.length (fun j t => t = if j = 0 then -1 else (p0.getD (j - 1) (0,0,0,0,0)).1) (fun j _ => v_scan (v_cs1 p0) ((0,0):Int×Int) (j:Int) (p0.drop j)) (by omega) (by omega) ?_ ?_ (-1) rfl
 ·intro t _
  rw [List.drop_length]
  simp only [sp_Z4_0,st_Z4_0,fM,show decide ((p0.length:Int) < (p0.length:Int))=false from decide_eq_false (by omega),cond_false]
  refine ⟨?_,rfl⟩
  and_intros
  all_goals first
   | (intro h; cases h; done)
   | (intro p hp; cases hp)
 ·intro j t _ hj ht
  have hd1:decide ((j:Int) < (p0.length:Int))=true := decide_eq_true (by omega)
  have hw1:IntKind.i64.wrap ((j:Int) + 1)=((j + 1:Nat):Int) := wrap_id (by omega) (by omega)
  rw [drop_getD (0,0,0,0,0) hj]
  have e:v_scan (v_cs1 p0) ((0,0):Int×Int) (j:Int) (p0.getD j (0,0,0,0,0) :: p0.drop (j + 1))=match v_cs1 p0 (j:Int) (p0.getD j (0,0,0,0,0)) with | none => v_scan (v_cs1 p0) ((0,0):Int×Int) ((j:Int) + 1) (p0.drop (j + 1)) | some v => v := by simp only [v_scan]; cases v_cs1 p0 (j:Int) (p0.getD j (0,0,0,0,0)) <;> rfl
  rw [e,show (j:Int) + 1 = ((j + 1:Nat):Int) by omega]
  simp only [sp_Z4_0,st_Z4_0,fM,hd1,cond_true,hw1,Int.toNat_natCast,v_svalm]
  refine ⟨?_,?_⟩
  ·and_intros
   all_goals first
    | (intro p hp; cases hp; done)
    | (intros; omega)
  ·unfold v_cs1
   cases hv:v_sval (p0.getD j (0,0,0,0,0))
   ·exact .inr rfl
   ·have h0 := v_sval_t hv
    rcases Nat.eq_zero_or_pos j with rfl | hp
    ·rw [if_pos rfl] at ht
     rw [ht,decide_eq_true (show (p0.getD 0 (0,0,0,0,0)).1 > -1 by omega)]
     exact .inl ⟨_,rfl,by simp,rfl⟩
    ·rw [if_neg (by omega)] at ht
     rw [show ((j:Int) == 0)=false from beq_eq_false_iff_ne.2 (by omega),show ((j:Int) - 1).toNat = j - 1 by omega,ht]
     cases decide ((p0.getD j (0,0,0,0,0)).1 > (p0.getD (j - 1) (0,0,0,0,0)).1)
     ·exact .inr rfl
     ·exact .inl ⟨_,rfl,by simp,rfl⟩
abbrev t_Z4 (p0:List (Int×Int×Int×Int×Int)):Int×Int := v_cs p0
abbrev qre_Z4 (_p0:List (Int×Int×Int×Int×Int)):List Prop := []
theorem pp_Z4 (p0:List (Int×Int×Int×Int×Int)) (_hq:∀ p∈qre_Z4 p0,p):∀ p∈pre_Z4 p0,p := by
 simp only [pre_Z4,fM]
 refine ⟨fun h => ?_,by simp⟩
 exact (l_Z4_0 p0 (tx_len h)).1
theorem tt_Z4 (p0:List (Int×Int×Int×Int×Int)) (_hq:∀ p∈qre_Z4 p0,p):s_Z4 p0 = t_Z4 p0 := by
 unfold s_Z4 t_Z4 v_cs
 rw [tx_csh (by omega)]
 cases h:decide ((p0.length:Int) > 20)
 ·rw [(l_Z4_0 p0 (by have := of_decide_eq_false h; omega)).2]
  cases ((p0.length:Int) == 0) <;> rfl
 ·cases ((p0.length:Int) == 0) <;> rfl

abbrev con_Z4:Con := ⟨P_Z4,R_Z4,fun x => qre_Z4 x,fun x => t_Z4 x⟩
theorem ok_Z4:ConOk Try.prog 32 con_Z4 := okG k_Z4 e_Z4 hC_Z4 fun x hx => tf_of (w_Z4_eq x _) (d_Z4 x _ (pp_Z4 x hx) (tt_Z4 x hx))
/-- Valid samples. -/
structure v_sok1 (q:Int×Int×Int×Int×Int):Prop where
 t:0≤q.1∧q.1≤1000000000000
 x : -10≤q.2.1∧q.2.1≤10
 y : -10≤q.2.2.1∧q.2.2.1≤10
 z : -10≤q.2.2.2.1∧q.2.2.2.1≤10
 v : -100000≤q.2.2.2.2∧q.2.2.2.2≤100000
structure v_smp (l:List (Int×Int×Int×Int×Int)):Prop where
 ne:l ≠ []
 len:l.length≤20
 ok:∀ x∈l,v_sok1 x
 asc:∀ k,0 < k→k < l.length→(l.getD (k - 1) (0,0,0,0,0)).1 < (l.getD k (0,0,0,0,0)).1
theorem v_sval_iff {x:Int×Int×Int×Int×Int}:v_sval x = true ↔ v_sok1 x := by
 unfold v_sval
 constructor
 ·intro h
  cases c1:s_Z3 x.1 0 1000000000000 <;> cases c2:s_Z3 x.2.1 (-10) 10 <;> cases c3:s_Z3 x.2.2.1 (-10) 10 <;> cases c4:s_Z3 x.2.2.2.1 (-10) 10 <;> cases c5:s_Z3 x.2.2.2.2 (-100000) 100000 <;> rw [c1,c2,c3,c4,c5] at h <;> try (cases h; done)
  exact ⟨tx_within.1 c1,tx_within.1 c2,tx_within.1 c3,tx_within.1 c4,tx_within.1 c5⟩
 ·rintro ⟨h1,h2,h3,h4,h5⟩
  rw [tx_within.2 h1,tx_within.2 h2,tx_within.2 h3,tx_within.2 h4,tx_within.2 h5]; rfl
theorem v_cs1_none {l:List (Int×Int×Int×Int×Int)} {k:Nat} {x:Int×Int×Int×Int×Int}:v_cs1 l (k:Int) x = none ↔ v_sok1 x∧(0 < k→(l.getD (k - 1) (0,0,0,0,0)).1 < x.1) := by
 unfold v_cs1
 have hk:((k:Int) - 1).toNat = k - 1 := by omega
 rw [hk]
 cases hv:v_sval x
 ·simp only [cond_false,reduceCtorEq,false_iff]
  rintro ⟨h,_⟩
  rw [v_sval_iff.2 h] at hv; cases hv
 ·have hs := v_sval_iff.1 hv
  rcases int0 (k:Int) with ⟨h0,_,e⟩ | ⟨h0,_,e⟩ <;> rw [e]
  ·simp only [cond_true,true_iff]
   exact ⟨hs,fun h => by omega⟩
  ·simp only [cond_true,cond_false]
   cases c:decide (x.1 > (l.getD (k - 1) (0,0,0,0,0)).1)
   ·have := of_decide_eq_false c
    simp only [cond_false,reduceCtorEq,false_iff]
    rintro ⟨_,h⟩
    have := h (by omega)
    omega
   ·have := of_decide_eq_true c
    simp only [cond_true,true_iff]
    exact ⟨hs,fun _ => this⟩
theorem v_cs_iff {l:List (Int×Int×Int×Int×Int)}:(v_cs l).2 = 0 ↔ v_smp l := by
 constructor
 ·intro h
  unfold v_cs at h
  rcases int0 (l.length:Int) with ⟨_,_,e0⟩ | ⟨h0,_,e0⟩
  ·rw [e0] at h; cases h
  rw [e0] at h
  rcases dec0 (a := 20) (b := (l.length:Int)) with ⟨_,_,_,_,e1⟩ | ⟨h1,_,_,_,e1⟩
  ·rw [e1] at h; cases h
  rw [e1] at h
  simp only [cond_false] at h
  have key := v_scan_end (f := v_cs1 l) (e := ((0,0):Int×Int)) (P := fun (r:gG) => r.2 = 0) l 0 h (fun j x v _ hv hv0 => by
   unfold v_cs1 at hv
   cases c1:v_sval x <;> rw [c1] at hv
   ·simp only [cond_false,sJ] at hv; subst hv; cases hv0
   ·cases c2:cond (j == 0) true (decide (x.1 > (l.getD (j - 1).toNat (0,0,0,0,0)).1)) <;> rw [c2] at hv
    ·simp only [cond_true,cond_false,sJ] at hv; subst hv; cases hv0
    ·cases hv)
  have key2:∀ k,(hk:k < l.length)→v_sok1 (l.getD k (0,0,0,0,0))∧(0 < k→(l.getD (k - 1) (0,0,0,0,0)).1 < (l.getD k (0,0,0,0,0)).1) := fun k hk => by
   have := key k hk
   rw [Int.zero_add] at this
   rw [gd_get (0,0,0,0,0) hk]
   exact v_cs1_none.1 this
  refine ⟨by rintro rfl; exact h0 rfl,by omega,fun x hx => ?_,fun k h0 hk => (key2 k hk).2 h0⟩
  obtain ⟨k,hk,rfl⟩ := List.getElem_of_mem hx
  rw [← gd_get (0,0,0,0,0) hk]
  exact (key2 k hk).1
 ·intro h
  have h0:0 < l.length := List.length_pos_iff.2 h.ne
  have hl := h.len
  unfold v_cs
  rw [show ((l.length:Int) == 0)=false from beq_eq_false_iff_ne.2 (by omega),decide_eq_false (show ¬ (l.length:Int) > 20 by omega)]
  simp only [cond_false]
  have key:∀ (r:List (Int×Int×Int×Int×Int)) (k:Nat),l.drop k = r→v_scan (v_cs1 l) ((0,0):Int×Int) (k:Int) r = (0,0) := by
   intro r
   induction r with
   | nil => intro k _; rfl
   | cons x r ih =>
    intro k e
    have hk:k < l.length := by
     rcases Nat.lt_or_ge k l.length with g | g
     ·exact g
     ·rw [List.drop_eq_nil_of_le g] at e; cases e
    rw [drop_getD (0,0,0,0,0) hk] at e
    simp only [List.cons.injEq] at e
    obtain ⟨e1,e2⟩ := e
    unfold v_scan
    rw [v_cs1_none.2 ⟨e1 ▸ h.ok _ (getD_mem' _ hk),fun h0 => e1 ▸ h.asc k h0 hk⟩]
    have := ih (k + 1) e2
    rw [Int.natCast_add] at this
    exact this
  rw [show v_scan (v_cs1 l) ((0,0):Int×Int) 0 l = (0,0) from key l 0 rfl]
def C_Zn:Cons := [(32,[],con_Z4)]
theorem hC_Zn:ConsOk Try.prog C_Zn := cC ok_Z4 <| ConsOk.nil
def w_Zn (p0:(List (Int×(Int×(Int×(Int×Int)))))) (K:Int→Prop):Prop := (K (v_cs p0).2)
theorem w_Zn_eq (p0:(List (Int×(Int×(Int×(Int×Int)))))) (K:Int→Prop):tfn F_Zn A_Zn C_Zn P_Zn R_Zn p0 K = w_Zn p0 K := by kernel_rfl
def s_Zn (p0:(List (Int×(Int×(Int×(Int×Int)))))):Int := (v_cs p0).2
abbrev pre_Zn (_p0:(List (Int×(Int×(Int×(Int×Int)))))):List Prop := []
theorem d_Zn (p0:(List (Int×(Int×(Int×(Int×Int)))))) (K:Int→Prop) (_hp:∀ p∈pre_Zn p0,p) (h:K (s_Zn p0)):w_Zn p0 K := by
 unfold w_Zn
 unfold s_Zn at h
 exact h
abbrev con_Zn:Con := ⟨P_Zn,R_Zn,fun x => pre_Zn x,fun x => s_Zn x⟩
theorem ok_Zn:ConOk Try.prog 72 con_Zn := okG k_Zn e_Zn hC_Zn fun x hx => tf_of (w_Zn_eq x _) (d_Zn x _ hx rfl)
/-- Some of the numbers of a list. -/
def v_sel (p:Nat→Bool):List Nat→List Int
 | [] => []
 | i :: r => cond (p i) ((i:Int) :: v_sel p r) (v_sel p r)
theorem v_sel_mem {p:Nat→Bool}:∀ {l:List Nat} {x:Int},x∈v_sel p l ↔ ∃ i∈l,p i = true∧x = (i:Int)
 | [],x => by simp [v_sel]
 | i :: r,x => by
  have ih := v_sel_mem (p := p) (l := r) (x := x)
  have e:v_sel p (i :: r)=cond (p i) ((i:Int) :: v_sel p r) (v_sel p r) := rfl
  rw [e]
  cases hp:p i
  ·rw [cond_false,ih]
   constructor
   ·rintro ⟨k,hk,h1,h2⟩; exact ⟨k,List.mem_cons_of_mem _ hk,h1,h2⟩
   ·rintro ⟨k,hk,h1,h2⟩
    rcases List.mem_cons.1 hk with rfl | hk
    ·rw [hp] at h1; cases h1
    ·exact ⟨k,hk,h1,h2⟩
  ·rw [cond_true,List.mem_cons,ih]
   constructor
   ·rintro (rfl | ⟨k,hk,h1,h2⟩)
    ·exact ⟨i,by simp,hp,rfl⟩
    ·exact ⟨k,List.mem_cons_of_mem _ hk,h1,h2⟩
   ·rintro ⟨k,hk,h1,h2⟩
    rcases List.mem_cons.1 hk with rfl | hk
    ·exact .inl h2
    ·exact .inr ⟨k,hk,h1,h2⟩
theorem v_sel_len (p:Nat→Bool):∀ (l:List Nat),(v_sel p l).length≤l.length
 | [] => Nat.le_refl _
 | i :: r => by
  have e:v_sel p (i :: r)=cond (p i) ((i:Int) :: v_sel p r) (v_sel p r) := rfl
  have := v_sel_len p r
  rw [e]
  cases p i
  ·rw [cond_false,List.length_cons]; omega
  ·rw [cond_true,List.length_cons,List.length_cons]; omega
theorem v_sel_snoc (p:Nat→Bool):∀ (l:List Nat) (i:Nat),v_sel p (l ++ [i])=v_sel p l ++ cond (p i) [(i:Int)] []
 | [],_ => rfl
 | k :: r,i => by
  have ih := v_sel_snoc p r i
  show cond (p k) ((k:Int) :: v_sel p (r ++ [i])) (v_sel p (r ++ [i]))=cond (p k) ((k:Int) :: v_sel p r) (v_sel p r) ++ _
  rw [ih]
  cases p k <;> rfl
theorem v_sel_cons (p:Nat→Bool) (i:Nat) (r:List Nat):v_sel p (i :: r)=cond (p i) ((i:Int) :: v_sel p r) (v_sel p r) := rfl
theorem tx_first3 {x y z:Int}:v_first [x,y,z]=cond (x != 0) x (cond (y != 0) y z) := by
 simp only [v_first]
 cases h:(x != 0)
 ·cases h2:(y != 0)
  ·cases h3:(z != 0)
   ·simp at h3; subst h3; rfl
   ·rfl
  ·rfl
 ·rfl
def C_Z7:Cons := [(85,[],con_Zm),(66,[],con_Z8),(71,[],con_Za),(84,[],con_Zl)]
theorem hC_Z7:ConsOk Try.prog C_Z7 := cC ok_Zm <| cC ok_Z8 <| cC ok_Za <| cC ok_Zl <| ConsOk.nil
abbrev q2_Z7 (p0:(Int×(List (Int×Int)))) (y1:gG) := (s_Z6 (p0.2.getD y1.1.toNat (zz0,zz0)).1 zz0 (1000000000000:Int))
abbrev q0_Z7 (p0:(Int×(List (Int×Int)))) (y1:gG) := ((s_Z8 (cond (q2_Z7 p0 y1) (s_Z6 (p0.2.getD y1.1.toNat (zz0,zz0)).2 (-100000:Int) (100000:Int)) false) zz2) :: ((s_Z8 (decide ((p0.2.getD y1.1.toNat (zz0,zz0)).1 > y1.2)) (9:Int)) :: ([]:List Int)))
abbrev q1_Z7 (p0:(Int×(List (Int×Int)))) := ((s_Z8 (s_Z6 p0.1 (-100000:Int) (100000:Int)) zz2) :: ((s_Z8 (decide ((p0.2.length:Int) ≥ zz2)) (10:Int)) :: ((s_Z8 (decide ((p0.2.length:Int)≤20)) (8:Int)) :: ([]:List Int))))
def w_Z7 (p0:(Int×(List (Int×Int)))) (K:(Int×Int)→Prop):Prop := ((lenOk (q1_Z7 p0)) ∧(((((v_first (q1_Z7 p0)) != zz0)=true) →(K (zz0,(v_first (q1_Z7 p0))))) ∧((((v_first (q1_Z7 p0)) != zz0)=false) →(∃ n0,(loopP (fun (y1:gG) k2 => ((((decide (y1.1 < (p0.2.length:Int)))=true) →((zz0≤y1.1) ∧((y1.1 < (p0.2.length:Int)) ∧((((q2_Z7 p0 y1)=true) →((q2_Z7 p0 y1)=(q2_Z7 p0 y1))) ∧((((q2_Z7 p0 y1)=true) →((q2_Z7 p0 y1)=(q2_Z7 p0 y1))) ∧(((q2_Z7 p0 y1)=(q2_Z7 p0 y1)) ∧((lenOk (q0_Z7 p0 y1)) ∧(((((v_first (q0_Z7 p0 y1)) != zz0)=true) →(K (y1.1,(v_first (q0_Z7 p0 y1))))) ∧((((v_first (q0_Z7 p0 y1)) != zz0)=false) →(k2 ((wi (y1.1 + zz1)),(p0.2.getD y1.1.toNat (zz0,zz0)).1))))))))))) ∧(((decide (y1.1 < (p0.2.length:Int)))=false) →(K (zz0,zz0))))) n0 (zz0,(-1:Int)))))))
theorem w_Z7_eq (p0:(Int×(List (Int×Int)))) (K:(Int×Int)→Prop):tfn F_Z7 A_Z7 C_Z7 P_Z7 R_Z7 p0 K = w_Z7 p0 K := by kernel_rfl
def st_Z7_0 (p0:(Int×(List (Int×Int)))) (y1:gG):(Int×Int) ⊕ (Int×Int) := (cond (decide (y1.1 < (p0.2.length:Int))) (cond ((v_first ((s_Z8 (cond (s_Z6 (p0.2.getD y1.1.toNat (0,0)).1 (0:Int) (1000000000000:Int)) (s_Z6 (p0.2.getD y1.1.toNat (0,0)).2 (-100000:Int) (100000:Int)) false) (2:Int)) :: ((s_Z8 (decide ((p0.2.getD y1.1.toNat (0,0)).1 > y1.2)) (9:Int)) :: ([]:List Int)))) != 0) (Sum.inr (y1.1,(v_first ((s_Z8 (cond (s_Z6 (p0.2.getD y1.1.toNat (0,0)).1 (0:Int) (1000000000000:Int)) (s_Z6 (p0.2.getD y1.1.toNat (0,0)).2 (-100000:Int) (100000:Int)) false) (2:Int)) :: ((s_Z8 (decide ((p0.2.getD y1.1.toNat (0,0)).1 > y1.2)) (9:Int)) :: ([]:List Int)))))) (Sum.inl ((IntKind.i64.wrap (y1.1 + 1)),(p0.2.getD y1.1.toNat (0,0)).1))) (Sum.inr (0,0)))
abbrev sp_Z7_0 (p0:(Int×(List (Int×Int)))) (y1:gG):List Prop := [(((decide (y1.1 < (p0.2.length:Int)))=true)→((0:Int)≤y1.1)),(((decide (y1.1 < (p0.2.length:Int)))=true)→(y1.1 < (p0.2.length:Int)))]
def s_Z7 (p0:(Int×(List (Int×Int)))):(Int×Int) := (cond ((v_first ((s_Z8 (s_Z6 p0.1 (-100000:Int) (100000:Int)) (2:Int)) :: ((s_Z8 (decide ((p0.2.length:Int) ≥ 2)) (10:Int)) :: ((s_Z8 (decide ((p0.2.length:Int)≤20)) (8:Int)) :: ([]:List Int))))) != 0) ((0:Int),(v_first ((s_Z8 (s_Z6 p0.1 (-100000:Int) (100000:Int)) (2:Int)) :: ((s_Z8 (decide ((p0.2.length:Int) ≥ 2)) (10:Int)) :: ((s_Z8 (decide ((p0.2.length:Int)≤20)) (8:Int)) :: ([]:List Int)))))) (lpv (0,0) (st_Z7_0 p0) ((0:Int),(-1:Int))))
abbrev pre_Z7 (p0:(Int×(List (Int×Int)))):List Prop := [((((v_first ((s_Z8 (s_Z6 p0.1 (-100000:Int) (100000:Int)) (2:Int)) :: ((s_Z8 (decide ((p0.2.length:Int) ≥ 2)) (10:Int)) :: ((s_Z8 (decide ((p0.2.length:Int)≤20)) (8:Int)) :: ([]:List Int))))) != 0)=false)→(OkL (st_Z7_0 p0) (sp_Z7_0 p0) ((0:Int),(-1:Int))))]
theorem d_Z7 (p0:(Int×(List (Int×Int)))) (K:(Int×Int)→Prop) (hp:∀ p∈pre_Z7 p0,p) (h:K (s_Z7 p0)):w_Z7 p0 K := by
 unfold w_Z7
 unfold s_Z7 at h
 obtain ⟨hp0,_⟩ := conj_of hp
 exact ⟨(lenOk_of 3 rfl (by decide)),(br' h (fun e0 h => h)
  (fun e0 h => (loop_gen (hp0 e0) h (fun y1 k1 hp h => by
 unfold st_Z7_0 at h; obtain ⟨hp0,hp1,_⟩ := conj_of hp
 exact (br' h (fun e2 h => ⟨(hp0 e2),(hp1 e2),rf,rf,rfl,(lenOk_of 2 rfl (by decide)),(br' h (fun e3 h => h)
  (fun e3 h => h))⟩)
  (fun e2 h => h))))))⟩
theorem tx_cbh {d n:Int}:v_first [s_Z8 (s_Z6 d (-100000) 100000) 2,s_Z8 (decide (n ≥ 2)) 10,s_Z8 (decide (n≤20)) 8]=cond (s_Z3 d (-100000) 100000) (cond (decide (n < 2)) 10 (cond (decide (n > 20)) 8 0)) 2 := by
 rw [tx_first3,tx_unless,tx_unless,tx_unless,tx_withinG]
 cases s_Z3 d (-100000) 100000
 ·rfl
 rcases dec0 (a := n) (b := 2) with ⟨h,c1,c2,c3,c4⟩ | ⟨h,c1,c2,c3,c4⟩
 ·rw [decide_eq_false (show ¬ n ≥ 2 by omega),decide_eq_true (show n < 2 by omega)]; rfl
 ·rw [decide_eq_true (show n ≥ 2 by omega),decide_eq_false (show ¬ n < 2 by omega)]
  rcases Int.lt_or_le 20 n with g | g
  ·rw [decide_eq_false (show ¬ n≤20 by omega),decide_eq_true (show n > 20 by omega)]; rfl
  ·rw [decide_eq_true (show n≤20 by omega),decide_eq_false (show ¬ n > 20 by omega)]; rfl
theorem tx_blen {p0:Int×List (Int×Int)} (h:(v_first [s_Z8 (s_Z6 p0.1 (-100000) 100000) 2,s_Z8 (decide ((p0.2.length:Int) ≥ 2)) 10,s_Z8 (decide ((p0.2.length:Int)≤20)) 8] != 0)=false):p0.2.length≤20 := by
 rw [tx_cbh] at h
 cases c1:s_Z3 p0.1 (-100000) 100000 <;> rw [c1] at h
 ·cases h
 cases c2:decide ((p0.2.length:Int) < 2) <;> rw [c2] at h
 ·cases c:decide ((p0.2.length:Int) > 20)
  ·have := of_decide_eq_false c; omega
  ·rw [c] at h; cases h
 ·cases h
theorem v_pvalm {x:Int×Int}:cond (s_Z6 x.1 0 1000000000000) (s_Z6 x.2 (-100000) 100000) false = v_pval x := by
 rw [tx_withinG,tx_withinG]; rfl
theorem v_pval_t {x:Int×Int} (h:v_pval x = true):(0≤x.1∧x.1≤1000000000000)∧-100000≤x.2∧x.2≤100000 := by
 unfold v_pval at h
 cases c:s_Z3 x.1 0 1000000000000 <;> rw [c] at h
 ·cases h
 ·exact ⟨tx_within.1 c,tx_within.1 h⟩
theorem l_Z7_0 (p0:Int×List (Int×Int)) (hl:p0.2.length≤20):OkL (st_Z7_0 p0) (sp_Z7_0 p0) (0,-1)∧lpv ((0,0):Int×Int) (st_Z7_0 p0) (0,-1)=v_scan (v_cb1 p0.2) ((0,0):Int×Int) 0 p0.2 := by
 refine @for_is Int (Int×Int) (Int×Int) (0,0) (st_Z7_0 p0) (sp_Z7_0 p0) (fun i t => (i,t)) 0 p0.2.length (fun j t => t = if j = 0 then -1 else (p0.2.getD (j - 1) (0,0)).1) (fun j _ => v_scan (v_cb1 p0.2) ((0,0):Int×Int) (j:Int) (p0.2.drop j)) (by omega) (by omega) ?_ ?_ (-1) rfl
 ·intro t _
  rw [List.drop_length]
  simp only [sp_Z7_0,st_Z7_0,fM,show decide ((p0.2.length:Int) < (p0.2.length:Int))=false from decide_eq_false (by omega),cond_false]
  refine ⟨?_,rfl⟩
  and_intros
  all_goals first
   | (intro h; cases h; done)
   | (intro p hp; cases hp)
 ·intro j t _ hj ht
  have hd1:decide ((j:Int) < (p0.2.length:Int))=true := decide_eq_true (by omega)
  have hw1:IntKind.i64.wrap ((j:Int) + 1)=((j + 1:Nat):Int) := wrap_id (by omega) (by omega)
  rw [drop_getD (0,0) hj]
  have e:v_scan (v_cb1 p0.2) ((0,0):Int×Int) (j:Int) (p0.2.getD j (0,0) :: p0.2.drop (j + 1))=match v_cb1 p0.2 (j:Int) (p0.2.getD j (0,0)) with | none => v_scan (v_cb1 p0.2) ((0,0):Int×Int) ((j:Int) + 1) (p0.2.drop (j + 1)) | some v => v := by simp only [v_scan]; cases v_cb1 p0.2 (j:Int) (p0.2.getD j (0,0)) <;> rfl
  rw [e,show (j:Int) + 1 = ((j + 1:Nat):Int) by omega]
  simp only [sp_Z7_0,st_Z7_0,fM,hd1,cond_true,hw1,Int.toNat_natCast,v_pvalm,tx_unless,tx_first2]
  refine ⟨?_,?_⟩
  ·and_intros
   all_goals first
    | (intro p hp; cases hp; done)
    | (intros; omega)
  ·unfold v_cb1
   cases hv:v_pval (p0.2.getD j (0,0))
   ·exact .inr rfl
   ·have h0 := (v_pval_t hv).1.1
    rcases Nat.eq_zero_or_pos j with rfl | hp
    ·rw [if_pos rfl] at ht
     rw [ht,decide_eq_true (show (p0.2.getD 0 (0,0)).1 > -1 by omega)]
     exact .inl ⟨_,rfl,by simp,rfl⟩
    ·rw [if_neg (by omega)] at ht
     rw [show ((j:Int) == 0)=false from beq_eq_false_iff_ne.2 (by omega),show ((j:Int) - 1).toNat = j - 1 by omega,ht]
     cases decide ((p0.2.getD j (0,0)).1 > (p0.2.getD (j - 1) (0,0)).1)
     ·exact .inr rfl
     ·exact .inl ⟨_,rfl,by simp,rfl⟩
abbrev t_Z7 (p0:Int×List (Int×Int)):Int×Int := v_cb p0
abbrev qre_Z7 (_p0:Int×List (Int×Int)):List Prop := []
theorem pp_Z7 (p0:Int×List (Int×Int)) (_hq:∀ p∈qre_Z7 p0,p):∀ p∈pre_Z7 p0,p := by
 simp only [pre_Z7,fM]
 refine ⟨fun h => ?_,by simp⟩
 exact (l_Z7_0 p0 (tx_blen h)).1
theorem tt_Z7 (p0:Int×List (Int×Int)) (_hq:∀ p∈qre_Z7 p0,p):s_Z7 p0 = t_Z7 p0 := by
 unfold s_Z7 t_Z7 v_cb
 rw [tx_cbh]
 cases s_Z3 p0.1 (-100000) 100000
 ·rfl
 cases decide ((p0.2.length:Int) < 2)
 ·cases h:decide ((p0.2.length:Int) > 20)
  ·rw [(l_Z7_0 p0 (by have := of_decide_eq_false h; omega)).2]; rfl
  ·rfl
 ·rfl

abbrev con_Z7:Con := ⟨P_Z7,R_Z7,fun x => qre_Z7 x,fun x => t_Z7 x⟩
theorem ok_Z7:ConOk Try.prog 107 con_Z7 := okG k_Z7 e_Z7 hC_Z7 fun x hx => tf_of (w_Z7_eq x _) (d_Z7 x _ (pp_Z7 x hx) (tt_Z7 x hx))
def C_Z2:Cons := [(83,[],con_Zj)]
theorem hC_Z2:ConsOk Try.prog C_Z2 := cC ok_Zj <| ConsOk.nil
abbrev q0_Z2 (y7:(Int×(List (Int×Int)))) := ((decide ((y7.2.length:Int) > zz0))=(decide ((y7.2.length:Int) > zz0)))
abbrev q1_Z2 (p0:(Int×(List (Int×Int)))) (y1:((List (Int×Int))×Int)) := (p0.2.getD y1.2.toNat (zz0,zz0))
abbrev q2_Z2 (y7:(Int×(List (Int×Int)))) := ((decide ((y7.2.length:Int) > zz0))=true)
def w_Z2 (p0:(Int×(List (Int×Int)))) (p1:gG) (K:(List (Int×Int))→Prop):Prop := (∃ n0,(loopP (fun (y1:((List (Int×Int))×Int)) k2 => ((((decide (y1.2 < (p0.2.length:Int)))=true) →((zz0≤y1.2) ∧((y1.2 < (p0.2.length:Int)) ∧((zz0≤(wi (y1.2 + zz1))) ∧(((wi (y1.2 + zz1))≤(p0.2.length:Int)) ∧(∃ n3,(loopP (fun (y4:(Int×(List (Int×Int)))) k5 => ((((decide (y4.1 < (((List.length (List.drop (Int.toNat (wi (y1.2 + zz1))) p0.2)):Nat):Int)))=true) →((zz0≤y4.1) ∧((y4.1 < (((List.length (List.drop (Int.toNat (wi (y1.2 + zz1))) p0.2)):Nat):Int)) ∧((((decide ((wi ((List.getD (List.drop (Int.toNat (wi (y1.2 + zz1))) p0.2) y4.1.toNat (zz0,zz0)).1 - (q1_Z2 p0 y1).1))≤p1.2))=true) →((decide ((wi ((List.getD (List.drop (Int.toNat (wi (y1.2 + zz1))) p0.2) y4.1.toNat (zz0,zz0)).1 - (q1_Z2 p0 y1).1))≤p1.2))=(decide ((wi ((List.getD (List.drop (Int.toNat (wi (y1.2 + zz1))) p0.2) y4.1.toNat (zz0,zz0)).1 - (q1_Z2 p0 y1).1))≤p1.2)))) ∧((((decide ((wi ((List.getD (List.drop (Int.toNat (wi (y1.2 + zz1))) p0.2) y4.1.toNat (zz0,zz0)).1 - (q1_Z2 p0 y1).1))≤p1.2))=true) →((decide ((wi ((List.getD (List.drop (Int.toNat (wi (y1.2 + zz1))) p0.2) y4.1.toNat (zz0,zz0)).1 - (q1_Z2 p0 y1).1))≤p1.2))=(decide ((wi ((List.getD (List.drop (Int.toNat (wi (y1.2 + zz1))) p0.2) y4.1.toNat (zz0,zz0)).1 - (q1_Z2 p0 y1).1))≤p1.2)))) ∧((((decide ((wi ((List.getD (List.drop (Int.toNat (wi (y1.2 + zz1))) p0.2) y4.1.toNat (zz0,zz0)).1 - (q1_Z2 p0 y1).1))≤p1.2))=true) →((decide ((wi ((List.getD (List.drop (Int.toNat (wi (y1.2 + zz1))) p0.2) y4.1.toNat (zz0,zz0)).1 - (q1_Z2 p0 y1).1))≤p1.2))=(decide ((wi ((List.getD (List.drop (Int.toNat (wi (y1.2 + zz1))) p0.2) y4.1.toNat (zz0,zz0)).1 - (q1_Z2 p0 y1).1))≤p1.2)))) ∧((((decide ((wi ((List.getD (List.drop (Int.toNat (wi (y1.2 + zz1))) p0.2) y4.1.toNat (zz0,zz0)).1 - (q1_Z2 p0 y1).1))≤p1.2))=true) →((decide ((wi ((List.getD (List.drop (Int.toNat (wi (y1.2 + zz1))) p0.2) y4.1.toNat (zz0,zz0)).1 - (q1_Z2 p0 y1).1))≤p1.2))=(decide ((wi ((List.getD (List.drop (Int.toNat (wi (y1.2 + zz1))) p0.2) y4.1.toNat (zz0,zz0)).1 - (q1_Z2 p0 y1).1))≤p1.2)))) ∧((((decide ((wi ((List.getD (List.drop (Int.toNat (wi (y1.2 + zz1))) p0.2) y4.1.toNat (zz0,zz0)).1 - (q1_Z2 p0 y1).1))≤p1.2))=true) →((decide ((wi ((List.getD (List.drop (Int.toNat (wi (y1.2 + zz1))) p0.2) y4.1.toNat (zz0,zz0)).1 - (q1_Z2 p0 y1).1))≤p1.2))=(decide ((wi ((List.getD (List.drop (Int.toNat (wi (y1.2 + zz1))) p0.2) y4.1.toNat (zz0,zz0)).1 - (q1_Z2 p0 y1).1))≤p1.2)))) ∧((((decide ((wi ((List.getD (List.drop (Int.toNat (wi (y1.2 + zz1))) p0.2) y4.1.toNat (zz0,zz0)).1 - (q1_Z2 p0 y1).1))≤p1.2))=true) →((decide ((wi ((List.getD (List.drop (Int.toNat (wi (y1.2 + zz1))) p0.2) y4.1.toNat (zz0,zz0)).1 - (q1_Z2 p0 y1).1))≤p1.2))=(decide ((wi ((List.getD (List.drop (Int.toNat (wi (y1.2 + zz1))) p0.2) y4.1.toNat (zz0,zz0)).1 - (q1_Z2 p0 y1).1))≤p1.2)))) ∧((((decide ((wi ((List.getD (List.drop (Int.toNat (wi (y1.2 + zz1))) p0.2) y4.1.toNat (zz0,zz0)).1 - (q1_Z2 p0 y1).1))≤p1.2))=true) →((decide ((wi ((List.getD (List.drop (Int.toNat (wi (y1.2 + zz1))) p0.2) y4.1.toNat (zz0,zz0)).1 - (q1_Z2 p0 y1).1))≤p1.2))=(decide ((wi ((List.getD (List.drop (Int.toNat (wi (y1.2 + zz1))) p0.2) y4.1.toNat (zz0,zz0)).1 - (q1_Z2 p0 y1).1))≤p1.2)))) ∧((((decide ((wi ((List.getD (List.drop (Int.toNat (wi (y1.2 + zz1))) p0.2) y4.1.toNat (zz0,zz0)).1 - (q1_Z2 p0 y1).1))≤p1.2))=true) →((decide ((wi ((List.getD (List.drop (Int.toNat (wi (y1.2 + zz1))) p0.2) y4.1.toNat (zz0,zz0)).1 - (q1_Z2 p0 y1).1))≤p1.2))=(decide ((wi ((List.getD (List.drop (Int.toNat (wi (y1.2 + zz1))) p0.2) y4.1.toNat (zz0,zz0)).1 - (q1_Z2 p0 y1).1))≤p1.2)))) ∧(((decide ((wi ((List.getD (List.drop (Int.toNat (wi (y1.2 + zz1))) p0.2) y4.1.toNat (zz0,zz0)).1 - (q1_Z2 p0 y1).1))≤p1.2))=(decide ((wi ((List.getD (List.drop (Int.toNat (wi (y1.2 + zz1))) p0.2) y4.1.toNat (zz0,zz0)).1 - (q1_Z2 p0 y1).1))≤p1.2))) ∧((((cond (decide ((wi ((List.getD (List.drop (Int.toNat (wi (y1.2 + zz1))) p0.2) y4.1.toNat (zz0,zz0)).1 - (q1_Z2 p0 y1).1))≤p1.2)) (!(s_Z6 (wi ((List.getD (List.drop (Int.toNat (wi (y1.2 + zz1))) p0.2) y4.1.toNat (zz0,zz0)).2 - (q1_Z2 p0 y1).2)) (wi (zz0 - p1.1)) p1.1)) false)=true) →((((y4.2.length + (List.length (((q1_Z2 p0 y1).1,(List.getD (List.drop (Int.toNat (wi (y1.2 + zz1))) p0.2) y4.1.toNat (zz0,zz0)).1) :: ([]:List (Int×Int))))) * 16)≤140737488355328) ∧(k5 ((wi (y4.1 + zz1)),(y4.2 ++ (((q1_Z2 p0 y1).1,(List.getD (List.drop (Int.toNat (wi (y1.2 + zz1))) p0.2) y4.1.toNat (zz0,zz0)).1) :: ([]:List (Int×Int)))))))) ∧(((cond (decide ((wi ((List.getD (List.drop (Int.toNat (wi (y1.2 + zz1))) p0.2) y4.1.toNat (zz0,zz0)).1 - (q1_Z2 p0 y1).1))≤p1.2)) (!(s_Z6 (wi ((List.getD (List.drop (Int.toNat (wi (y1.2 + zz1))) p0.2) y4.1.toNat (zz0,zz0)).2 - (q1_Z2 p0 y1).2)) (wi (zz0 - p1.1)) p1.1)) false)=false) →(k5 ((wi (y4.1 + zz1)),y4.2)))))))))))))))) ∧(((decide (y4.1 < (((List.length (List.drop (Int.toNat (wi (y1.2 + zz1))) p0.2)):Nat):Int)))=false) →(k2 (y4.2,(wi (y1.2 + zz1))))))) n3 (zz0,y1.1)))))))) ∧(((decide (y1.2 < (p0.2.length:Int)))=false) →(∃ n6,(loopP (fun (y7:(Int×(List (Int×Int)))) k8 => ((((decide (y7.1 < (y1.1.length:Int)))=true) →((zz0≤y7.1) ∧((y7.1 < (y1.1.length:Int)) ∧(((q2_Z2 y7) →(q0_Z2 y7)) ∧(((q2_Z2 y7) →(q0_Z2 y7)) ∧(((q2_Z2 y7) →(q0_Z2 y7)) ∧(((q2_Z2 y7) →(q0_Z2 y7)) ∧(((q2_Z2 y7) →(zz0≤(wi ((y7.2.length:Int) - zz1)))) ∧(((q2_Z2 y7) →((wi ((y7.2.length:Int) - zz1)) < (y7.2.length:Int))) ∧(((q2_Z2 y7) →(q0_Z2 y7)) ∧(((q2_Z2 y7) →(q0_Z2 y7)) ∧(((q2_Z2 y7) →(q0_Z2 y7)) ∧(((q2_Z2 y7) →(q0_Z2 y7)) ∧(((q2_Z2 y7) →(q0_Z2 y7)) ∧((q0_Z2 y7) ∧((((cond (decide ((y7.2.length:Int) > zz0)) (decide ((y1.1.getD y7.1.toNat (zz0,zz0)).1≤(wi ((y7.2.getD (Int.toNat (wi ((y7.2.length:Int) - zz1))) (zz0,zz0)).2 + zz1)))) false)=true) →((zz0≤(wi ((y7.2.length:Int) - zz1))) ∧(((wi ((y7.2.length:Int) - zz1)) < (y7.2.length:Int)) ∧((zz0≤(wi ((y7.2.length:Int) - zz1))) ∧(((wi ((y7.2.length:Int) - zz1)) < (y7.2.length:Int)) ∧(k8 ((wi (y7.1 + zz1)),(List.set y7.2 (Int.toNat (wi ((y7.2.length:Int) - zz1))) ((y7.2.getD (Int.toNat (wi ((y7.2.length:Int) - zz1))) (zz0,zz0)).1,(max (y7.2.getD (Int.toNat (wi ((y7.2.length:Int) - zz1))) (zz0,zz0)).2 (y1.1.getD y7.1.toNat (zz0,zz0)).2)))))))))) ∧(((cond (decide ((y7.2.length:Int) > zz0)) (decide ((y1.1.getD y7.1.toNat (zz0,zz0)).1≤(wi ((y7.2.getD (Int.toNat (wi ((y7.2.length:Int) - zz1))) (zz0,zz0)).2 + zz1)))) false)=false) →((((y7.2.length + (List.length ((y1.1.getD y7.1.toNat (zz0,zz0)) :: ([]:List (Int×Int))))) * 16)≤140737488355328) ∧(k8 ((wi (y7.1 + zz1)),(y7.2 ++ ((y1.1.getD y7.1.toNat (zz0,zz0)) :: ([]:List (Int×Int)))))))))))))))))))))))) ∧(((decide (y7.1 < (y1.1.length:Int)))=false) →(K y7.2)))) n6 (zz0,([]:List (Int×Int)))))))) n0 (([]:List (Int×Int)),zz0)))
theorem w_Z2_eq (p0:(Int×(List (Int×Int)))) (p1:gG) (K:(List (Int×Int))→Prop):tfn F_Z2 A_Z2 C_Z2 P_Z2 R_Z2 (p0,p1) K = w_Z2 p0 p1 K := by kernel_rfl
def st_Z2_0 (p0:(Int×(List (Int×Int)))) (p1:gG) (y0:((List (Int×Int))×Int)) (y2:(Int×(List (Int×Int)))):(Int×(List (Int×Int))) ⊕ (((List (Int×Int))×Int) ⊕ (List (Int×Int))) := (cond (decide (y2.1 < (((List.length (List.drop (Int.toNat (IntKind.i64.wrap (y0.2 + 1))) p0.2)):Nat):Int))) (cond (cond (decide ((IntKind.i64.wrap ((List.getD (List.drop (Int.toNat (IntKind.i64.wrap (y0.2 + 1))) p0.2) y2.1.toNat (0,0)).1 - (p0.2.getD y0.2.toNat (0,0)).1))≤p1.2)) (!(s_Z6 (IntKind.i64.wrap ((List.getD (List.drop (Int.toNat (IntKind.i64.wrap (y0.2 + 1))) p0.2) y2.1.toNat (0,0)).2 - (p0.2.getD y0.2.toNat (0,0)).2)) (IntKind.i64.wrap ((0:Int) - p1.1)) p1.1)) false) (Sum.inl ((IntKind.i64.wrap (y2.1 + 1)),(y2.2 ++ (((p0.2.getD y0.2.toNat (0,0)).1,(List.getD (List.drop (Int.toNat (IntKind.i64.wrap (y0.2 + 1))) p0.2) y2.1.toNat (0,0)).1) :: ([]:List (Int×Int)))))) (Sum.inl ((IntKind.i64.wrap (y2.1 + 1)),y2.2))) (Sum.inr (Sum.inl (y2.2,(IntKind.i64.wrap (y0.2 + 1))))))
abbrev sp_Z2_0 (p0:(Int×(List (Int×Int)))) (p1:gG) (y0:((List (Int×Int))×Int)) (y2:(Int×(List (Int×Int)))):List Prop := [(((decide (y2.1 < (((List.length (List.drop (Int.toNat (IntKind.i64.wrap (y0.2 + 1))) p0.2)):Nat):Int)))=true)→((0:Int)≤y2.1)),(((decide (y2.1 < (((List.length (List.drop (Int.toNat (IntKind.i64.wrap (y0.2 + 1))) p0.2)):Nat):Int)))=true)→(y2.1 < (((List.length (List.drop (Int.toNat (IntKind.i64.wrap (y0.2 + 1))) p0.2)):Nat):Int))),(((decide (y2.1 < (((List.length (List.drop (Int.toNat (IntKind.i64.wrap (y0.2 + 1))) p0.2)):Nat):Int)))=true)→(((cond (decide ((IntKind.i64.wrap ((List.getD (List.drop (Int.toNat (IntKind.i64.wrap (y0.2 + 1))) p0.2) y2.1.toNat (0,0)).1 - (p0.2.getD y0.2.toNat (0,0)).1))≤p1.2)) (!(s_Z6 (IntKind.i64.wrap ((List.getD (List.drop (Int.toNat (IntKind.i64.wrap (y0.2 + 1))) p0.2) y2.1.toNat (0,0)).2 - (p0.2.getD y0.2.toNat (0,0)).2)) (IntKind.i64.wrap ((0:Int) - p1.1)) p1.1)) false)=true)→(((y2.2.length + (List.length (((p0.2.getD y0.2.toNat (0,0)).1,(List.getD (List.drop (Int.toNat (IntKind.i64.wrap (y0.2 + 1))) p0.2) y2.1.toNat (0,0)).1) :: ([]:List (Int×Int))))) * 16)≤140737488355328)))]
def st_Z2_1 (_p0:(Int×(List (Int×Int)))) (_p1:gG) (y0:((List (Int×Int))×Int)) (y5:(Int×(List (Int×Int)))):(Int×(List (Int×Int))) ⊕ (((List (Int×Int))×Int) ⊕ (List (Int×Int))) := (cond (decide (y5.1 < (y0.1.length:Int))) (cond (cond (decide ((y5.2.length:Int) > 0)) (decide ((y0.1.getD y5.1.toNat (0,0)).1≤(IntKind.i64.wrap ((y5.2.getD (Int.toNat (IntKind.i64.wrap ((y5.2.length:Int) - 1))) (0,0)).2 + 1)))) false) (Sum.inl ((IntKind.i64.wrap (y5.1 + 1)),(List.set y5.2 (Int.toNat (IntKind.i64.wrap ((y5.2.length:Int) - 1))) ((y5.2.getD (Int.toNat (IntKind.i64.wrap ((y5.2.length:Int) - 1))) (0,0)).1,(max (y5.2.getD (Int.toNat (IntKind.i64.wrap ((y5.2.length:Int) - 1))) (0,0)).2 (y0.1.getD y5.1.toNat (0,0)).2))))) (Sum.inl ((IntKind.i64.wrap (y5.1 + 1)),(y5.2 ++ ((y0.1.getD y5.1.toNat (0,0)) :: ([]:List (Int×Int))))))) (Sum.inr (Sum.inr y5.2)))
abbrev sp_Z2_1 (_p0:(Int×(List (Int×Int)))) (_p1:gG) (y0:((List (Int×Int))×Int)) (y5:(Int×(List (Int×Int)))):List Prop := [(((decide (y5.1 < (y0.1.length:Int)))=true)→((0:Int)≤y5.1)),(((decide (y5.1 < (y0.1.length:Int)))=true)→(y5.1 < (y0.1.length:Int))),(((decide (y5.1 < (y0.1.length:Int)))=true)→(((decide ((y5.2.length:Int) > 0))=true)→((0:Int)≤(IntKind.i64.wrap ((y5.2.length:Int) - 1))))),(((decide (y5.1 < (y0.1.length:Int)))=true)→(((decide ((y5.2.length:Int) > 0))=true)→((IntKind.i64.wrap ((y5.2.length:Int) - 1)) < (y5.2.length:Int)))),(((decide (y5.1 < (y0.1.length:Int)))=true)→(((cond (decide ((y5.2.length:Int) > 0)) (decide ((y0.1.getD y5.1.toNat (0,0)).1≤(IntKind.i64.wrap ((y5.2.getD (Int.toNat (IntKind.i64.wrap ((y5.2.length:Int) - 1))) (0,0)).2 + 1)))) false)=true)→((0:Int)≤(IntKind.i64.wrap ((y5.2.length:Int) - 1))))),(((decide (y5.1 < (y0.1.length:Int)))=true)→(((cond (decide ((y5.2.length:Int) > 0)) (decide ((y0.1.getD y5.1.toNat (0,0)).1≤(IntKind.i64.wrap ((y5.2.getD (Int.toNat (IntKind.i64.wrap ((y5.2.length:Int) - 1))) (0,0)).2 + 1)))) false)=true)→((IntKind.i64.wrap ((y5.2.length:Int) - 1)) < (y5.2.length:Int)))),(((decide (y5.1 < (y0.1.length:Int)))=true)→(((cond (decide ((y5.2.length:Int) > 0)) (decide ((y0.1.getD y5.1.toNat (0,0)).1≤(IntKind.i64.wrap ((y5.2.getD (Int.toNat (IntKind.i64.wrap ((y5.2.length:Int) - 1))) (0,0)).2 + 1)))) false)=false)→(((y5.2.length + (List.length ((y0.1.getD y5.1.toNat (0,0)) :: ([]:List (Int×Int))))) * 16)≤140737488355328)))]
def st_Z2_2 (p0:(Int×(List (Int×Int)))) (p1:gG) (y0:((List (Int×Int))×Int)):((List (Int×Int))×Int) ⊕ (List (Int×Int)) := (cond (decide (y0.2 < (p0.2.length:Int))) (lpv (Sum.inr []) (st_Z2_0 p0 p1 y0) ((0:Int),y0.1)) (lpv (Sum.inr []) (st_Z2_1 p0 p1 y0) ((0:Int),([]:List (Int×Int)))))
abbrev sp_Z2_2 (p0:(Int×(List (Int×Int)))) (p1:gG) (y0:((List (Int×Int))×Int)):List Prop := [(((decide (y0.2 < (p0.2.length:Int)))=true)→((0:Int)≤y0.2)),(((decide (y0.2 < (p0.2.length:Int)))=true)→(y0.2 < (p0.2.length:Int))),(((decide (y0.2 < (p0.2.length:Int)))=true)→((0:Int)≤(IntKind.i64.wrap (y0.2 + 1)))),(((decide (y0.2 < (p0.2.length:Int)))=true)→((IntKind.i64.wrap (y0.2 + 1))≤(p0.2.length:Int))),(((decide (y0.2 < (p0.2.length:Int)))=true)→(OkL (st_Z2_0 p0 p1 y0) (sp_Z2_0 p0 p1 y0) ((0:Int),y0.1))),(((decide (y0.2 < (p0.2.length:Int)))=false)→(OkL (st_Z2_1 p0 p1 y0) (sp_Z2_1 p0 p1 y0) ((0:Int),([]:List (Int×Int)))))]
def s_Z2 (p0:(Int×(List (Int×Int)))) (p1:gG):(List (Int×Int)) := (lpv [] (st_Z2_2 p0 p1) (([]:List (Int×Int)),(0:Int)))
abbrev pre_Z2 (p0:(Int×(List (Int×Int)))) (p1:gG):List Prop := [(OkL (st_Z2_2 p0 p1) (sp_Z2_2 p0 p1) (([]:List (Int×Int)),(0:Int)))]
theorem d_Z2 (p0:(Int×(List (Int×Int)))) (p1:gG) (K:(List (Int×Int))→Prop) (hp:∀ p∈pre_Z2 p0 p1,p) (h:K (s_Z2 p0 p1)):w_Z2 p0 p1 K := by
 unfold w_Z2
 unfold s_Z2 at h
 obtain ⟨hp0,_⟩ := conj_of hp
 exact (loop_gen (hp0) h (fun y0 k0 hp h => by
 unfold st_Z2_2 at h; obtain ⟨hp0,hp1,hp2,hp3,hp4,hp5,_⟩ := conj_of hp
 exact (br' h (fun e1 h => ⟨(hp0 e1),(hp1 e1),(hp2 e1),(hp3 e1),(loop_gen (hp4 e1) h (fun y2 k2 hp h => by
 unfold st_Z2_0 at h; obtain ⟨hp0,hp1,hp2,_⟩ := conj_of hp
 exact (br' h (fun e3 h => ⟨(hp0 e3),(hp1 e3),rf,rf,rf,rf,rf,rf,rf,rf,rfl,(br' h (fun e4 h => ⟨(hp2 e3 e4),h⟩)
  (fun e4 h => h))⟩)
  (fun e3 h => h))))⟩)
  (fun e1 h => (loop_gen (hp5 e1) h (fun y5 k5 hp h => by
 unfold st_Z2_1 at h; obtain ⟨hp0,hp1,hp2,hp3,hp4,hp5,hp6,_⟩ := conj_of hp
 exact (br' h (fun e6 h => ⟨(hp0 e6),(hp1 e6),rf,rf,rf,rf,(hp2 e6),(hp3 e6),rf,rf,rf,rf,rf,rfl,(br' h (fun e7 h => ⟨(hp4 e6 e7),(hp5 e6 e7),(hp4 e6 e7),(hp5 e6 e7),h⟩)
  (fun e7 h => ⟨(hp6 e6 e7),h⟩))⟩)
  (fun e6 h => h))))))))
/-- Valid base stations and rules. -/
structure v_bok (b:Int×List (Int×Int)):Prop where
 d : -100000≤b.1∧b.1≤100000
 two:2≤b.2.length
 len:b.2.length≤20
 ok:∀ k,k < b.2.length→(0≤(b.2.getD k (0,0)).1∧(b.2.getD k (0,0)).1≤1000000000000)∧-100000≤(b.2.getD k (0,0)).2∧(b.2.getD k (0,0)).2≤100000
 asc:∀ k,0 < k→k < b.2.length→(b.2.getD (k - 1) (0,0)).1 < (b.2.getD k (0,0)).1
theorem v_cb_ok {b:Int×List (Int×Int)} (h:(v_cb b).2 = 0):v_bok b := by
 unfold v_cb at h
 cases c1:s_Z3 b.1 (-100000) 100000 <;> rw [c1] at h
 ·cases h
 cases c2:decide ((b.2.length:Int) < 2) <;> rw [c2] at h
 rotate_left
 ·cases h
 cases c3:decide ((b.2.length:Int) > 20) <;> rw [c3] at h
 rotate_left
 ·cases h
 have h2 := of_decide_eq_false c2
 have h3 := of_decide_eq_false c3
 simp only [cond_false,cond_true] at h
 have key := v_scan_end (f := v_cb1 b.2) (e := ((0,0):Int×Int)) (P := fun (r:gG) => r.2 = 0) b.2 0 h (fun j x v _ hv hv0 => by
  unfold v_cb1 at hv
  cases c1:v_pval x <;> rw [c1] at hv
  ·simp only [cond_false,sJ] at hv; subst hv; cases hv0
  ·cases c2:cond (j == 0) true (decide (x.1 > (b.2.getD (j - 1).toNat (0,0)).1)) <;> rw [c2] at hv
   ·simp only [cond_true,cond_false,sJ] at hv; subst hv; cases hv0
   ·cases hv)
 have key2:∀ k,(hk:k < b.2.length)→v_pval (b.2.getD k (0,0))=true∧(0 < k→(b.2.getD (k - 1) (0,0)).1 < (b.2.getD k (0,0)).1) := fun k hk => by
  have := key k hk
  rw [Int.zero_add,← gd_get (0,0) hk] at this
  unfold v_cb1 at this
  cases c:v_pval (b.2.getD k (0,0)) <;> rw [c] at this
  ·cases this
  ·refine ⟨rfl,fun h0 => ?_⟩
   rw [show ((k:Int) == 0)=false from beq_eq_false_iff_ne.2 (by omega),show ((k:Int) - 1).toNat = k - 1 by omega] at this
   cases d:decide ((b.2.getD k (0,0)).1 > (b.2.getD (k - 1) (0,0)).1) <;> rw [d] at this
   ·cases this
   ·exact of_decide_eq_true d
 exact ⟨tx_within.1 c1,by omega,by omega,fun k hk => v_pval_t (key2 k hk).1,fun k h0 hk => (key2 k hk).2 h0⟩
def v_rlerr (r:gG):Int := cond (cond (s_Z3 r.1 0 200000) (s_Z3 r.2 1 1000000000000) false) 0 2
structure v_rlok (r:gG):Prop where
 l:0≤r.1∧r.1≤200000
 w:1≤r.2∧r.2≤1000000000000
theorem v_rlerr_ok {r:Int×Int} (h:v_rlerr r = 0):v_rlok r := by
 unfold v_rlerr at h
 cases c:s_Z3 r.1 0 200000 <;> rw [c] at h
 ·cases h
 ·cases d:s_Z3 r.2 1 1000000000000 <;> rw [d] at h
  ·cases h
  ·exact ⟨tx_within.1 c,tx_within.1 d⟩
/-- Pairs of points that make a storm,in their order; storms that touch made one. -/
def v_pr (b:Int×List (Int×Int)) (r:gG) (i k:Nat):Bool := cond (decide ((b.2.getD k (0,0)).1 - (b.2.getD i (0,0)).1≤r.2)) (!(s_Z3 ((b.2.getD k (0,0)).2 - (b.2.getD i (0,0)).2) (-r.1) r.1)) false
def v_row (b:Int×List (Int×Int)) (r:gG) (i:Nat):Nat→List (Int×Int)
 | 0 => []
 | m + 1 => v_row b r i m ++ cond (v_pr b r i (i + 1 + m)) [((b.2.getD i (0,0)).1,(b.2.getD (i + 1 + m) (0,0)).1)] []
def v_all (b:Int×List (Int×Int)) (r:gG):Nat→List (Int×Int)
 | 0 => []
 | i + 1 => v_all b r i ++ v_row b r i (b.2.length - (i + 1))
def v_mg (o:gC) (x:gG):List (Int×Int) := cond (cond (decide ((o.length:Int) > 0)) (decide (x.1≤(o.getD (o.length - 1) (0,0)).2 + 1)) false) (o.set (o.length - 1) ((o.getD (o.length - 1) (0,0)).1,max (o.getD (o.length - 1) (0,0)).2 x.2)) (o ++ [x])
def v_strm (b:Int×List (Int×Int)) (r:gG):List (Int×Int) := (v_all b r b.2.length).foldl v_mg []
def v_tk (l:gC):Prop := ∀ x∈l,(0≤x.1∧x.1≤1000000000000)∧0≤x.2∧x.2≤1000000000000
theorem v_tk_app {l m:List (Int×Int)} (h:v_tk l) (h2:v_tk m):v_tk (l ++ m) := fun x hx => (List.mem_append.1 hx).elim (h x) (h2 x)
theorem v_row_tk {b:Int×List (Int×Int)} (h:v_bok b) (r:gG) {i:Nat}:∀ m,i + 1 + m≤b.2.length→v_tk (v_row b r i m)
 | 0,_ => fun _ hx => by cases hx
 | m + 1,hm => by
  refine v_tk_app (v_row_tk h r m (by omega)) ?_
  cases v_pr b r i (i + 1 + m)
  ·intro x hx; cases hx
  ·intro x hx
   obtain rfl := List.mem_singleton.1 hx
   exact ⟨(h.ok i (by omega)).1,(h.ok (i + 1 + m) (by omega)).1⟩
theorem v_all_tk {b:Int×List (Int×Int)} (h:v_bok b) (r:gG):∀ i,i≤b.2.length→v_tk (v_all b r i)
 | 0,_ => fun _ hx => by cases hx
 | i + 1,hi => v_tk_app (v_all_tk h r i (by omega)) (v_row_tk h r _ (by omega))
theorem v_row_len (b:Int×List (Int×Int)) (r:gG) (i:Nat):∀ m,(v_row b r i m).length≤m
 | 0 => Nat.le_refl _
 | m + 1 => by
  have ih := v_row_len b r i m
  unfold v_row
  rw [List.length_append]
  cases v_pr b r i (i + 1 + m)
  ·show (v_row b r i m).length + 0≤_; omega
  ·show (v_row b r i m).length + 1≤_; omega
theorem v_all_len (b:Int×List (Int×Int)) (r:gG) (hl:b.2.length≤20):∀ i,(v_all b r i).length≤i * 20
 | 0 => Nat.le_refl _
 | i + 1 => by
  have ih := v_all_len b r hl i
  have := v_row_len b r i (b.2.length - (i + 1))
  unfold v_all
  rw [List.length_append]; omega
theorem v_mg_len (o:gC) (x:gG):(v_mg o x).length≤o.length + 1 := by
 unfold v_mg
 cases cond (decide ((o.length:Int) > 0)) (decide (x.1≤(o.getD (o.length - 1) (0,0)).2 + 1)) false
 ·rw [cond_false,List.length_append]; exact Nat.le_refl _
 ·rw [cond_true,List.length_set]; omega
theorem v_mg_tk {o:List (Int×Int)} {x:Int×Int} (h:v_tk o) (hx:(0≤x.1∧x.1≤1000000000000)∧0≤x.2∧x.2≤1000000000000):v_tk (v_mg o x) := by
 unfold v_mg
 cases c:cond (decide ((o.length:Int) > 0)) (decide (x.1≤(o.getD (o.length - 1) (0,0)).2 + 1)) false
 ·exact v_tk_app h fun y hy => by obtain rfl := List.mem_singleton.1 hy; exact hx
 ·intro y hy
  rcases List.mem_or_eq_of_mem_set hy with g | g
  ·exact h y g
  ·have hl:0 < o.length := by
    cases d:decide ((o.length:Int) > 0) <;> rw [d] at c
    ·cases c
    ·have := of_decide_eq_true d; omega
   have := h _ (getD_mem' (0,0) (show o.length - 1 < o.length by omega))
   subst g
   exact ⟨this.1,by simp only; omega⟩
theorem v_fold_len:∀ (l o:gC),(l.foldl v_mg o).length≤o.length + l.length
 | [],_ => Nat.le_refl _
 | x :: l,o => by
  have := v_fold_len l (v_mg o x)
  have := v_mg_len o x
  rw [List.foldl_cons,List.length_cons]; omega
theorem v_fold_tk:∀ (l o:gC),v_tk l→v_tk o→v_tk (l.foldl v_mg o)
 | [],_,_,h => h
 | x :: l,o,h,ho => v_fold_tk l (v_mg o x) (fun y hy => h y (List.mem_cons_of_mem _ hy)) (v_mg_tk ho (h x List.mem_cons_self))
theorem l_Z2_0 (p0:Int×List (Int×Int)) (p1:gG) (h:v_bok p0) (hr:v_rlok p1) (i:Nat) (hi:i < p0.2.length):OkL (st_Z2_0 p0 p1 (v_all p0 p1 i,(i:Int))) (sp_Z2_0 p0 p1 (v_all p0 p1 i,(i:Int))) (0,v_all p0 p1 i)∧lpv (.inr []) (st_Z2_0 p0 p1 (v_all p0 p1 i,(i:Int))) (0,v_all p0 p1 i) = .inl (v_all p0 p1 (i + 1),((i + 1:Nat):Int)) := by
 have hl := h.len
 have hw0:IntKind.i64.wrap ((i:Int) + 1)=((i + 1:Nat):Int) := wrap_id (by omega) (by omega)
 have hdl:(p0.2.drop (i + 1)).length = p0.2.length - (i + 1) := List.length_drop
 have main := @for_is (List (Int×Int)) (Int×List (Int×Int)) (((List (Int×Int))×Int) ⊕ (List (Int×Int))) (.inr []) (st_Z2_0 p0 p1 (v_all p0 p1 i,(i:Int))) (sp_Z2_0 p0 p1 (v_all p0 p1 i,(i:Int))) (fun i t => (i,t)) 0 (p0.2.length - (i + 1)) (fun j t => t = v_all p0 p1 i ++ v_row p0 p1 i j) (fun _ _ => .inl (v_all p0 p1 (i + 1),((i + 1:Nat):Int))) (Nat.zero_le _) (by omega) ?_ ?_ (v_all p0 p1 i) (by unfold v_row; rw [List.append_nil])
 ·exact main
 ·rintro t h1
  simp only [sp_Z2_0,st_Z2_0,fM,hw0,Int.toNat_natCast,hdl,decide_eq_false (Int.lt_irrefl ((p0.2.length - (i + 1):Nat):Int)),cond_false,h1]
  refine ⟨?_,by first | rfl | trivial⟩
  and_intros
  all_goals first
   | (intro h; cases h; done)
   | (intro p hp; cases hp)
 ·rintro j t h0 hj h1
  have hw1:IntKind.i64.wrap ((j:Int) + 1)=((j + 1:Nat):Int) := wrap_id (by omega) (by omega)
  have hd:decide ((j:Int) < ((p0.2.length - (i + 1):Nat):Int))=true := decide_eq_true (by omega)
  have hg:(p0.2.drop (i + 1)).getD j (0,0)=p0.2.getD (i + 1 + j) (0,0) := by
   rw [List.getD_eq_getElem?_getD,List.getElem?_drop,List.getD_eq_getElem?_getD]
  have ga := h.ok i hi
  have gb := h.ok (i + 1 + j) (by omega)
  have rl := hr.l
  have w1:IntKind.i64.wrap ((p0.2.getD (i + 1 + j) (0,0)).1 - (p0.2.getD i (0,0)).1)=(p0.2.getD (i + 1 + j) (0,0)).1 - (p0.2.getD i (0,0)).1 := wrap_id (by omega) (by omega)
  have w2:IntKind.i64.wrap ((p0.2.getD (i + 1 + j) (0,0)).2 - (p0.2.getD i (0,0)).2)=(p0.2.getD (i + 1 + j) (0,0)).2 - (p0.2.getD i (0,0)).2 := wrap_id (by omega) (by omega)
  have w3:IntKind.i64.wrap (0 - p1.1) = -p1.1 := by rw [wrap_id (by omega) (by omega)]; omega
  have hp:cond (decide ((p0.2.getD (i + 1 + j) (0,0)).1 - (p0.2.getD i (0,0)).1≤p1.2)) (!(s_Z3 ((p0.2.getD (i + 1 + j) (0,0)).2 - (p0.2.getD i (0,0)).2) (-p1.1) p1.1)) false = v_pr p0 p1 i (i + 1 + j) := rfl
  have hs:v_row p0 p1 i (j + 1)=v_row p0 p1 i j ++ cond (v_pr p0 p1 i (i + 1 + j)) [((p0.2.getD i (0,0)).1,(p0.2.getD (i + 1 + j) (0,0)).1)] [] := rfl
  have hal := v_all_len p0 p1 hl i
  have hrl := v_row_len p0 p1 i j
  have htl:t.length≤420 := by rw [h1,List.length_append]; omega
  simp only [sp_Z2_0,st_Z2_0,fM,hw0,hw1,Int.toNat_natCast,hdl,hd,cond_true,hg,w1,w2,w3,tx_withinG,hp]
  refine ⟨?_,?_⟩
  ·and_intros
   all_goals first
    | (intro p hp; cases hp; done)
    | (intros; simp only [List.length_cons,List.length_nil]; omega)
    | (intros; omega)
  ·cases hc:v_pr p0 p1 i (i + 1 + j)
   ·refine .inl ⟨t,rfl,by rw [hs,h1,hc]; simp,by first | rfl | trivial⟩
   ·refine .inl ⟨_,rfl,by rw [hs,h1,hc,List.append_assoc]; rfl,by first | rfl | trivial⟩
theorem l_Z2_1 (p0:Int×List (Int×Int)) (p1:gG) (A:gC) (n:Int) (hA:v_tk A) (hn:A.length≤400):OkL (st_Z2_1 p0 p1 (A,n)) (sp_Z2_1 p0 p1 (A,n)) (0,[])∧lpv (.inr []) (st_Z2_1 p0 p1 (A,n)) (0,[]) = .inr (A.foldl v_mg []) := by
 have main := @for_is (List (Int×Int)) (Int×List (Int×Int)) (((List (Int×Int))×Int) ⊕ (List (Int×Int))) (.inr []) (st_Z2_1 p0 p1 (A,n)) (sp_Z2_1 p0 p1 (A,n)) (fun i t => (i,t)) 0 A.length (fun j t => t = (A.take j).foldl v_mg []) (fun _ _ => .inr (A.foldl v_mg [])) (Nat.zero_le _) (by omega) ?_ ?_ [] rfl
 ·exact main
 ·rintro t h1
  rw [List.take_length] at h1
  simp only [sp_Z2_1,st_Z2_1,fM,decide_eq_false (Int.lt_irrefl (A.length:Int)),cond_false,h1]
  refine ⟨?_,by first | rfl | trivial⟩
  and_intros
  all_goals first
   | (intro h; cases h; done)
   | (intro p hp; cases hp)
 ·rintro j t h0 hj h1
  have hw1:IntKind.i64.wrap ((j:Int) + 1)=((j + 1:Nat):Int) := wrap_id (by omega) (by omega)
  have hd:decide ((j:Int) < (A.length:Int))=true := decide_eq_true (by omega)
  have hs:(A.take (j + 1)).foldl v_mg []=v_mg t (A.getD j (0,0)) := by
   rw [List.take_add_one,List.getElem?_eq_getElem hj,Option.toList_some,List.foldl_append,← h1,List.getD_eq_getElem?_getD,List.getElem?_eq_getElem hj]; rfl
  have hlen:t.length≤400 := by
   have := v_fold_len (A.take j) []
   rw [h1,List.length_nil] at *
   rw [List.length_take] at this; omega
  have htk:v_tk t := by rw [h1]; exact v_fold_tk _ _ (fun x hx => hA x (List.mem_of_mem_take hx)) (fun x hx => by cases hx)
  rcases Nat.eq_zero_or_pos t.length with g | g
  ·have hg:decide ((t.length:Int) > 0)=false := decide_eq_false (by omega)
   have hm:v_mg t (A.getD j (0,0))=t ++ [A.getD j (0,0)] := by unfold v_mg; rw [hg]; rfl
   simp only [sp_Z2_1,st_Z2_1,fM,hw1,Int.toNat_natCast,hd,hg,cond_true,cond_false]
   refine ⟨?_,.inl ⟨t ++ [A.getD j (0,0)],rfl,by rw [hs,hm],by first | rfl | trivial⟩⟩
   and_intros
   all_goals first
    | (intro p hp; cases hp; done)
    | (intro _ h; cases h; done)
    | (intros; simp only [List.length_cons,List.length_nil]; omega)
    | (intros; omega)
  ·have hg:decide ((t.length:Int) > 0)=true := decide_eq_true (by omega)
   have hw2:IntKind.i64.wrap ((t.length:Int) - 1)=((t.length - 1:Nat):Int) := by rw [wrap_id (by omega) (by omega)]; omega
   have hb := htk _ (getD_mem' (0,0) (show t.length - 1 < t.length by omega))
   have hw3:IntKind.i64.wrap ((t.getD (t.length - 1) (0,0)).2 + 1)=(t.getD (t.length - 1) (0,0)).2 + 1 := wrap_id (by omega) (by omega)
   have hm:v_mg t (A.getD j (0,0))=cond (decide ((A.getD j (0,0)).1≤(t.getD (t.length - 1) (0,0)).2 + 1)) (t.set (t.length - 1) ((t.getD (t.length - 1) (0,0)).1,max (t.getD (t.length - 1) (0,0)).2 (A.getD j (0,0)).2)) (t ++ [A.getD j (0,0)]) := by unfold v_mg; rw [hg]; rfl
   simp only [sp_Z2_1,st_Z2_1,fM,hw1,hw2,hw3,Int.toNat_natCast,hd,hg,cond_true]
   refine ⟨?_,?_⟩
   ·and_intros
    all_goals first
     | (intro p hp; cases hp; done)
     | (intros; simp only [List.length_cons,List.length_nil]; omega)
     | (intros; omega)
   ·rw [hs,hm]
    cases decide ((A.getD j (0,0)).1≤(t.getD (t.length - 1) (0,0)).2 + 1)
    ·exact .inl ⟨_,rfl,rfl,by first | rfl | trivial⟩
    ·exact .inl ⟨_,rfl,rfl,by first | rfl | trivial⟩
theorem l_Z2_2 (p0:Int×List (Int×Int)) (p1:gG) (h:v_bok p0) (hr:v_rlok p1):OkL (st_Z2_2 p0 p1) (sp_Z2_2 p0 p1) ([],0)∧lpv [] (st_Z2_2 p0 p1) ([],0)=v_strm p0 p1 := by
 have hl := h.len
 have main := @for_is (List (Int×Int)) ((List (Int×Int))×Int) (List (Int×Int)) [] (st_Z2_2 p0 p1) (sp_Z2_2 p0 p1) (fun i t => (t,i)) 0 p0.2.length (fun j t => t = v_all p0 p1 j) (fun _ _ => v_strm p0 p1) (Nat.zero_le _) (by omega) ?_ ?_ [] rfl
 ·exact main
 ·rintro t h1
  have hal := v_all_len p0 p1 hl p0.2.length
  obtain ⟨q1,q2⟩ := l_Z2_1 p0 p1 (v_all p0 p1 p0.2.length) p0.2.length (v_all_tk h p1 _ (Nat.le_refl _)) (by omega)
  subst h1
  simp only [sp_Z2_2,st_Z2_2,fM,decide_eq_false (Int.lt_irrefl (p0.2.length:Int)),cond_false]
  refine ⟨⟨fun h => (by cases h),fun h => (by cases h),fun h => (by cases h),fun h => (by cases h),fun h => (by cases h),fun _ => q1,fun p hp => by cases hp⟩,q2⟩
 ·rintro j t h0 hj h1
  have hw1:IntKind.i64.wrap ((j:Int) + 1)=((j + 1:Nat):Int) := wrap_id (by omega) (by omega)
  have hd:decide ((j:Int) < (p0.2.length:Int))=true := decide_eq_true (by omega)
  obtain ⟨q1,q2⟩ := l_Z2_0 p0 p1 h hr j hj
  subst h1
  simp only [sp_Z2_2,st_Z2_2,fM,hd,cond_true,hw1]
  exact ⟨⟨fun _ => by omega,fun _ => by omega,fun _ => by omega,fun _ => by omega,fun _ => q1,fun h => (by cases h),fun p hp => by cases hp⟩,.inl ⟨v_all p0 p1 (j + 1),q2,rfl,by first | rfl | trivial⟩⟩
abbrev t_Z2 (p0:Int×List (Int×Int)) (p1:gG):List (Int×Int) := v_strm p0 p1
abbrev qre_Z2 (p0:Int×List (Int×Int)) (p1:gG):List Prop := [v_bok p0,v_rlok p1]
theorem pp_Z2 (p0:Int×List (Int×Int)) (p1:gG) (hq:∀ p∈qre_Z2 p0 p1,p):∀ p∈pre_Z2 p0 p1,p := by
 obtain ⟨h1,h2,_⟩ := conj_of hq
 simp only [pre_Z2,fM]
 exact ⟨(l_Z2_2 p0 p1 h1 h2).1,by simp⟩
theorem tt_Z2 (p0:Int×List (Int×Int)) (p1:gG) (hq:∀ p∈qre_Z2 p0 p1,p):s_Z2 p0 p1 = t_Z2 p0 p1 := by
 obtain ⟨h1,h2,_⟩ := conj_of hq
 exact (l_Z2_2 p0 p1 h1 h2).2

abbrev con_Z2:Con := ⟨P_Z2,R_Z2,fun x => qre_Z2 x.1 x.2,fun x => t_Z2 x.1 x.2⟩
theorem ok_Z2:ConOk Try.prog 92 con_Z2 := okG k_Z2 e_Z2 hC_Z2 fun x hx => tf_of (w_Z2_eq x.1 x.2 _) (d_Z2 x.1 x.2 _ (pp_Z2 x.1 x.2 hx) (tt_Z2 x.1 x.2 hx))
def C_Zh:Cons := [(17,[],con_Z3)]
theorem hC_Zh:ConsOk Try.prog C_Zh := cC ok_Z3 <| ConsOk.nil
def w_Zh (p0:gG) (K:Int→Prop):Prop := ((((!(s_Z3 p0.1 zz0 (200000:Int)))=false) →((!(s_Z3 p0.1 zz0 (200000:Int)))=(!(s_Z3 p0.1 zz0 (200000:Int))))) ∧((((!(s_Z3 p0.1 zz0 (200000:Int)))=false) →((!(s_Z3 p0.1 zz0 (200000:Int)))=(!(s_Z3 p0.1 zz0 (200000:Int))))) ∧((((!(s_Z3 p0.1 zz0 (200000:Int)))=false) →((!(s_Z3 p0.1 zz0 (200000:Int)))=(!(s_Z3 p0.1 zz0 (200000:Int))))) ∧(((!(s_Z3 p0.1 zz0 (200000:Int)))=(!(s_Z3 p0.1 zz0 (200000:Int)))) ∧((((cond (!(s_Z3 p0.1 zz0 (200000:Int))) true (!(s_Z3 p0.2 zz1 (1000000000000:Int))))=true) →(K (2:Int))) ∧(((cond (!(s_Z3 p0.1 zz0 (200000:Int))) true (!(s_Z3 p0.2 zz1 (1000000000000:Int))))=false) →(K zz0)))))))
theorem w_Zh_eq (p0:gG) (K:Int→Prop):tfn F_Zh A_Zh C_Zh P_Zh R_Zh p0 K = w_Zh p0 K := by kernel_rfl
def s_Zh (p0:gG):Int := (cond (cond (!(s_Z3 p0.1 (0:Int) (200000:Int))) true (!(s_Z3 p0.2 (1:Int) (1000000000000:Int)))) (2:Int) (0:Int))
abbrev pre_Zh (_p0:gG):List Prop := []
theorem d_Zh (p0:gG) (K:Int→Prop) (_hp:∀ p∈pre_Zh p0,p) (h:K (s_Zh p0)):w_Zh p0 K := by
 unfold w_Zh
 unfold s_Zh at h
 exact ⟨rf,rf,rf,rfl,(br' h (fun e0 h => h)
  (fun e0 h => h))⟩
abbrev t_Zh (p0:gG):Int := v_rlerr p0
abbrev qre_Zh (_p0:gG):List Prop := []
theorem pp_Zh (p0:gG) (_hq:∀ p∈qre_Zh p0,p):∀ p∈pre_Zh p0,p := by
 simp [pre_Zh]
theorem tt_Zh (p0:gG) (_hq:∀ p∈qre_Zh p0,p):s_Zh p0 = t_Zh p0 := by
 unfold s_Zh t_Zh v_rlerr
 cases s_Z3 p0.1 0 200000 <;> cases s_Z3 p0.2 1 1000000000000 <;> rfl

abbrev con_Zh:Con := ⟨P_Zh,R_Zh,fun x => qre_Zh x,fun x => t_Zh x⟩
theorem ok_Zh:ConOk Try.prog 37 con_Zh := okG k_Zh e_Zh hC_Zh fun x hx => tf_of (w_Zh_eq x _) (d_Zh x _ (pp_Zh x hx) (tt_Zh x hx))
def C_Zy:Cons := [(34,[],con_Z5)]
theorem hC_Zy:ConsOk Try.prog C_Zy := cC ok_Z5 <| ConsOk.nil
def w_Zy (p0:(List (Int×(Int×(Int×(Int×Int)))))) (K:Int→Prop):Prop := (K (v_cs p0).2)
theorem w_Zy_eq (p0:(List (Int×(Int×(Int×(Int×Int)))))) (K:Int→Prop):tfn F_Zy A_Zy C_Zy P_Zy R_Zy p0 K = w_Zy p0 K := by kernel_rfl
def s_Zy (p0:(List (Int×(Int×(Int×(Int×Int)))))):Int := (v_cs p0).2
abbrev pre_Zy (_p0:(List (Int×(Int×(Int×(Int×Int)))))):List Prop := []
theorem d_Zy (p0:(List (Int×(Int×(Int×(Int×Int)))))) (K:Int→Prop) (_hp:∀ p∈pre_Zy p0,p) (h:K (s_Zy p0)):w_Zy p0 K := by
 unfold w_Zy
 unfold s_Zy at h
 exact h
abbrev con_Zy:Con := ⟨P_Zy,R_Zy,fun x => pre_Zy x,fun x => s_Zy x⟩
theorem ok_Zy:ConOk Try.prog 24 con_Zy := okG k_Zy e_Zy hC_Zy fun x hx => tf_of (w_Zy_eq x _) (d_Zy x _ hx rfl)
def C_Zv:Cons := []
theorem hC_Zv:ConsOk Try.prog C_Zv := ConsOk.nil
def w_Zv (p0:(Int×(List (Int×Int)))) (K:(Int×(List (Int×Int)))→Prop):Prop := (((((List.length ([]:List (Int×Int))) + p0.2.length) * 16)≤140737488355328) ∧(K (p0.1,(([]:List (Int×Int)) ++ p0.2))))
theorem w_Zv_eq (p0:(Int×(List (Int×Int)))) (K:(Int×(List (Int×Int)))→Prop):tfn F_Zv A_Zv C_Zv P_Zv R_Zv p0 K = w_Zv p0 K := by kernel_rfl
def s_Zv (p0:(Int×(List (Int×Int)))):(Int×(List (Int×Int))) := (p0.1,(([]:List (Int×Int)) ++ p0.2))
abbrev pre_Zv (p0:(Int×(List (Int×Int)))):List Prop := [((((List.length ([]:List (Int×Int))) + p0.2.length) * 16)≤140737488355328)]
theorem d_Zv (p0:(Int×(List (Int×Int)))) (K:(Int×(List (Int×Int)))→Prop) (hp:∀ p∈pre_Zv p0,p) (h:K (s_Zv p0)):w_Zv p0 K := by
 unfold w_Zv
 unfold s_Zv at h
 obtain ⟨hp0,_⟩ := conj_of hp
 exact ⟨(hp0),h⟩
abbrev con_Zv:Con := ⟨P_Zv,R_Zv,fun x => pre_Zv x,fun x => s_Zv x⟩
theorem ok_Zv:ConOk Try.prog 19 con_Zv := okG k_Zv e_Zv hC_Zv fun x hx => tf_of (w_Zv_eq x _) (d_Zv x _ hx rfl)
def C_Zf:Cons := [(86,[],con_Z6),(66,[],con_Z8)]
theorem hC_Zf:ConsOk Try.prog C_Zf := cC ok_Z6 <| cC ok_Z8 <| ConsOk.nil
def w_Zf (p0:gG) (K:Int→Prop):Prop := ((((s_Z6 p0.1 zz0 (200000:Int))=true) →((s_Z6 p0.1 zz0 (200000:Int))=(s_Z6 p0.1 zz0 (200000:Int)))) ∧((((s_Z6 p0.1 zz0 (200000:Int))=true) →((s_Z6 p0.1 zz0 (200000:Int))=(s_Z6 p0.1 zz0 (200000:Int)))) ∧(((s_Z6 p0.1 zz0 (200000:Int))=(s_Z6 p0.1 zz0 (200000:Int))) ∧(K (s_Z8 (cond (s_Z6 p0.1 zz0 (200000:Int)) (s_Z6 p0.2 zz1 (1000000000000:Int)) false) (2:Int))))))
theorem w_Zf_eq (p0:gG) (K:Int→Prop):tfn F_Zf A_Zf C_Zf P_Zf R_Zf p0 K = w_Zf p0 K := by kernel_rfl
def s_Zf (p0:gG):Int := (s_Z8 (cond (s_Z6 p0.1 (0:Int) (200000:Int)) (s_Z6 p0.2 (1:Int) (1000000000000:Int)) false) (2:Int))
abbrev pre_Zf (_p0:gG):List Prop := []
theorem d_Zf (p0:gG) (K:Int→Prop) (_hp:∀ p∈pre_Zf p0,p) (h:K (s_Zf p0)):w_Zf p0 K := by
 unfold w_Zf
 unfold s_Zf at h
 exact ⟨rf,rf,rfl,h⟩
abbrev t_Zf (p0:gG):Int := v_rlerr p0
abbrev qre_Zf (_p0:gG):List Prop := []
theorem pp_Zf (p0:gG) (_hq:∀ p∈qre_Zf p0,p):∀ p∈pre_Zf p0,p := by
 simp [pre_Zf]
theorem tt_Zf (p0:gG) (_hq:∀ p∈qre_Zf p0,p):s_Zf p0 = t_Zf p0 := by
 unfold s_Zf t_Zf v_rlerr
 rw [tx_unless,tx_withinG,tx_withinG]

abbrev con_Zf:Con := ⟨P_Zf,R_Zf,fun x => qre_Zf x,fun x => t_Zf x⟩
theorem ok_Zf:ConOk Try.prog 91 con_Zf := okG k_Zf e_Zf hC_Zf fun x hx => tf_of (w_Zf_eq x _) (d_Zf x _ (pp_Zf x hx) (tt_Zf x hx))
def C_Zk:Cons := [(107,[],con_Z7)]
theorem hC_Zk:ConsOk Try.prog C_Zk := cC ok_Z7 <| ConsOk.nil
def w_Zk (p0:(Int×(List (Int×Int)))) (K:((Int×(List (Int×Int)))×Int)→Prop):Prop := (K (p0,(v_cb p0).2))
theorem w_Zk_eq (p0:(Int×(List (Int×Int)))) (K:((Int×(List (Int×Int)))×Int)→Prop):tfn F_Zk A_Zk C_Zk P_Zk R_Zk p0 K = w_Zk p0 K := by kernel_rfl
def s_Zk (p0:(Int×(List (Int×Int)))):((Int×(List (Int×Int)))×Int) := (p0,(v_cb p0).2)
abbrev pre_Zk (_p0:(Int×(List (Int×Int)))):List Prop := []
theorem d_Zk (p0:(Int×(List (Int×Int)))) (K:((Int×(List (Int×Int)))×Int)→Prop) (_hp:∀ p∈pre_Zk p0,p) (h:K (s_Zk p0)):w_Zk p0 K := by
 unfold w_Zk
 unfold s_Zk at h
 exact h
abbrev con_Zk:Con := ⟨P_Zk,R_Zk,fun x => pre_Zk x,fun x => s_Zk x⟩
theorem ok_Zk:ConOk Try.prog 65 con_Zk := okG k_Zk e_Zk hC_Zk fun x hx => tf_of (w_Zk_eq x _) (d_Zk x _ hx rfl)
def C_Zg:Cons := [(65,[],con_Zk),(91,[],con_Zf),(71,[],con_Za),(92,[],con_Z2)]
theorem hC_Zg:ConsOk Try.prog C_Zg := cC ok_Zk <| cC ok_Zf <| cC ok_Za <| cC ok_Z2 <| ConsOk.nil
def w_Zg (p0:(Int×(List (Int×Int)))) (p1:gG) (K:((List (Int×Int))×Int)→Prop):Prop := ((lenOk ((v_cb p0).2 :: ((v_rlerr p1) :: ([]:List Int)))) ∧(((((v_first ((v_cb p0).2 :: ((v_rlerr p1) :: ([]:List Int)))) != 0)=true) →(K (([]:List (Int×Int)),(v_first ((v_cb p0).2 :: ((v_rlerr p1) :: ([]:List Int))))))) ∧((((v_first ((v_cb p0).2 :: ((v_rlerr p1) :: ([]:List Int)))) != 0)=false) →((v_bok p0) ∧((v_rlok p1) ∧(K ((v_strm p0 p1),zz0)))))))
theorem w_Zg_eq (p0:(Int×(List (Int×Int)))) (p1:gG) (K:((List (Int×Int))×Int)→Prop):tfn F_Zg A_Zg C_Zg P_Zg R_Zg (p0,p1) K = w_Zg p0 p1 K := by kernel_rfl
def s_Zg (p0:(Int×(List (Int×Int)))) (p1:gG):((List (Int×Int))×Int) := (cond ((v_first ((v_cb p0).2 :: ((v_rlerr p1) :: ([]:List Int)))) != 0) (([]:List (Int×Int)),(v_first ((v_cb p0).2 :: ((v_rlerr p1) :: ([]:List Int))))) ((v_strm p0 p1),(0:Int)))
abbrev pre_Zg (p0:(Int×(List (Int×Int)))) (p1:gG):List Prop := [((((v_first ((v_cb p0).2 :: ((v_rlerr p1) :: ([]:List Int)))) != 0)=false)→(v_bok p0)),((((v_first ((v_cb p0).2 :: ((v_rlerr p1) :: ([]:List Int)))) != 0)=false)→(v_rlok p1))]
theorem d_Zg (p0:(Int×(List (Int×Int)))) (p1:gG) (K:((List (Int×Int))×Int)→Prop) (hp:∀ p∈pre_Zg p0 p1,p) (h:K (s_Zg p0 p1)):w_Zg p0 p1 K := by
 unfold w_Zg
 unfold s_Zg at h
 obtain ⟨hp0,hp1,_⟩ := conj_of hp
 exact ⟨(lenOk_of 2 rfl (by decide)),(br' h (fun e0 h => h)
  (fun e0 h => ⟨(hp0 e0),(hp1 e0),h⟩))⟩
/-- What StormsOf answers. -/
def v_sterr (b:Int×List (Int×Int)) (r:gG):Int := v_first [(v_cb b).2,v_rlerr r]
def v_sto (b:Int×List (Int×Int)) (r:gG):List (Int×Int)×Int := cond (v_sterr b r != 0) ([],v_sterr b r) (v_strm b r,0)
theorem v_sterr_ok {b:Int×List (Int×Int)} {r:Int×Int} (h:v_sterr b r = 0):v_bok b∧v_rlok r := by
 unfold v_sterr at h
 obtain ⟨h1,h2⟩ := v_first0 h
 exact ⟨v_cb_ok h1,v_rlerr_ok (v_first0 h2).1⟩
theorem v_sto_cases (b:Int×List (Int×Int)) (r:gG):((v_cb b).2 ≠ 0∧v_sto b r = ([],(v_cb b).2)) ∨ (v_cb b).2 = 0∧((v_rlerr r ≠ 0∧v_sto b r = ([],v_rlerr r)) ∨ (v_rlerr r = 0∧v_sto b r = (v_strm b r,0))) := by
 unfold v_sto v_sterr
 rw [tx_first2]
 rcases int0 (v_cb b).2 with ⟨z1,e1,_⟩ | ⟨z1,e1,_⟩ <;> rw [e1]
 ·refine .inr ⟨z1,?_⟩
  rcases int0 (v_rlerr r) with ⟨z2,e2,_⟩ | ⟨z2,e2,_⟩
  ·exact .inr ⟨z2,by rw [cond_false,e2]; rfl⟩
  ·exact .inl ⟨z2,by rw [cond_false,e2]; rfl⟩
 ·exact .inl ⟨z1,by simp only [cond_true]; rw [e1]; rfl⟩
abbrev t_Zg (p0:Int×List (Int×Int)) (p1:gG):List (Int×Int)×Int := v_sto p0 p1
abbrev qre_Zg (_p0:Int×List (Int×Int)) (_p1:gG):List Prop := []
theorem pp_Zg (p0:Int×List (Int×Int)) (p1:gG) (_hq:∀ p∈qre_Zg p0 p1,p):∀ p∈pre_Zg p0 p1,p := by
 simp only [pre_Zg,fM,show ∀ (x:Int×List (Int×Int)) (y:gG),v_first [(v_cb x).2,v_rlerr y]=v_sterr x y from fun _ _ => rfl]
 refine ⟨fun e => (v_sterr_ok (bne0' e)).1,fun e => (v_sterr_ok (bne0' e)).2,by simp⟩
theorem tt_Zg (p0:Int×List (Int×Int)) (p1:gG) (_hq:∀ p∈qre_Zg p0 p1,p):s_Zg p0 p1 = t_Zg p0 p1 := by
 unfold s_Zg t_Zg v_sto
 simp only [show ∀ (x:Int×List (Int×Int)) (y:gG),v_first [(v_cb x).2,v_rlerr y]=v_sterr x y from fun _ _ => rfl]

abbrev con_Zg:Con := ⟨P_Zg,R_Zg,fun x => qre_Zg x.1 x.2,fun x => t_Zg x.1 x.2⟩
theorem ok_Zg:ConOk Try.prog 35 con_Zg := okG k_Zg e_Zg hC_Zg fun x hx => tf_of (w_Zg_eq x.1 x.2 _) (d_Zg x.1 x.2 _ (pp_Zg x.1 x.2 hx) (tt_Zg x.1 x.2 hx))
def C_Zx:Cons := []
theorem hC_Zx:ConsOk Try.prog C_Zx := ConsOk.nil
def w_Zx (p0:(List (Int×(Int×(Int×(Int×Int)))))) (K:(List (Int×(Int×(Int×(Int×Int)))))→Prop):Prop := (((((List.length ([]:List (Int×(Int×(Int×(Int×Int)))))) + p0.length) * 40)≤140737488355328) ∧(K (([]:List (Int×(Int×(Int×(Int×Int))))) ++ p0)))
theorem w_Zx_eq (p0:(List (Int×(Int×(Int×(Int×Int)))))) (K:(List (Int×(Int×(Int×(Int×Int)))))→Prop):tfn F_Zx A_Zx C_Zx P_Zx R_Zx p0 K = w_Zx p0 K := by kernel_rfl
def s_Zx (p0:(List (Int×(Int×(Int×(Int×Int)))))):(List (Int×(Int×(Int×(Int×Int))))) := (([]:List (Int×(Int×(Int×(Int×Int))))) ++ p0)
abbrev pre_Zx (p0:(List (Int×(Int×(Int×(Int×Int)))))):List Prop := [((((List.length ([]:List (Int×(Int×(Int×(Int×Int)))))) + p0.length) * 40)≤140737488355328)]
theorem d_Zx (p0:(List (Int×(Int×(Int×(Int×Int)))))) (K:(List (Int×(Int×(Int×(Int×Int)))))→Prop) (hp:∀ p∈pre_Zx p0,p) (h:K (s_Zx p0)):w_Zx p0 K := by
 unfold w_Zx
 unfold s_Zx at h
 obtain ⟨hp0,_⟩ := conj_of hp
 exact ⟨(hp0),h⟩
abbrev con_Zx:Con := ⟨P_Zx,R_Zx,fun x => pre_Zx x,fun x => s_Zx x⟩
theorem ok_Zx:ConOk Try.prog 22 con_Zx := okG k_Zx e_Zx hC_Zx fun x hx => tf_of (w_Zx_eq x _) (d_Zx x _ hx rfl)
def C_Zr:Cons := [(86,[],con_Z6)]
theorem hC_Zr:ConsOk Try.prog C_Zr := cC ok_Z6 <| ConsOk.nil
def w_Zr (p0:gG) (p1:(Int×(Int×(Int×(Int×Int))))) (K:Bool→Prop):Prop := (K (s_Z6 p1.1 p0.1 p0.2))
theorem w_Zr_eq (p0:gG) (p1:(Int×(Int×(Int×(Int×Int))))) (K:Bool→Prop):tfn F_Zr A_Zr C_Zr P_Zr R_Zr (p0,p1) K = w_Zr p0 p1 K := by kernel_rfl
def s_Zr (p0:gG) (p1:(Int×(Int×(Int×(Int×Int))))):Bool := (s_Z6 p1.1 p0.1 p0.2)
abbrev pre_Zr (_p0:gG) (_p1:(Int×(Int×(Int×(Int×Int))))):List Prop := []
theorem d_Zr (p0:gG) (p1:(Int×(Int×(Int×(Int×Int))))) (K:Bool→Prop) (_hp:∀ p∈pre_Zr p0 p1,p) (h:K (s_Zr p0 p1)):w_Zr p0 p1 K := by
 unfold w_Zr
 unfold s_Zr at h
 exact h
abbrev con_Zr:Con := ⟨P_Zr,R_Zr,fun x => pre_Zr x.1 x.2,fun x => s_Zr x.1 x.2⟩
theorem ok_Zr:ConOk Try.prog 94 con_Zr := okG k_Zr e_Zr hC_Zr fun x hx => tf_of (w_Zr_eq x.1 x.2 _) (d_Zr x.1 x.2 _ hx rfl)
def C_Ze:Cons := [(94,[],con_Zr)]
theorem hC_Ze:ConsOk Try.prog C_Ze := cC ok_Zr <| ConsOk.nil
def w_Ze (p0:gC) (p1:((Int×(Int×(Int×(Int×Int))))×PUnit)) (K:Int→Prop):Prop := (∃ n0,(loopP (fun (y1:Int) k2 => ((((decide (y1 < (p0.length:Int)))=true) →((zz0≤y1) ∧((y1 < (p0.length:Int)) ∧((((s_Z6 p1.1.1 (p0.getD y1.toNat (zz0,zz0)).1 (p0.getD y1.toNat (zz0,zz0)).2)=true) →(K y1)) ∧(((s_Z6 p1.1.1 (p0.getD y1.toNat (zz0,zz0)).1 (p0.getD y1.toNat (zz0,zz0)).2)=false) →(k2 (IntKind.i64.wrap (y1 + 1)))))))) ∧(((decide (y1 < (p0.length:Int)))=false) →(K (-1:Int))))) n0 zz0))
theorem w_Ze_eq (p0:gC) (p1:((Int×(Int×(Int×(Int×Int))))×PUnit)) (K:Int→Prop):tfn F_Ze A_Ze C_Ze P_Ze R_Ze (p0,p1) K = w_Ze p0 p1 K := by kernel_rfl
def st_Ze_0 (p0:gC) (p1:((Int×(Int×(Int×(Int×Int))))×PUnit)) (y0:Int):Int ⊕ Int := (cond (decide (y0 < (p0.length:Int))) (cond (s_Z6 p1.1.1 (p0.getD y0.toNat (0,0)).1 (p0.getD y0.toNat (0,0)).2) (Sum.inr y0) (Sum.inl (IntKind.i64.wrap (y0 + 1)))) (Sum.inr (-1:Int)))
abbrev sp_Ze_0 (p0:gC) (_p1:((Int×(Int×(Int×(Int×Int))))×PUnit)) (y0:Int):List Prop := [(((decide (y0 < (p0.length:Int)))=true)→((0:Int)≤y0)),(((decide (y0 < (p0.length:Int)))=true)→(y0 < (p0.length:Int)))]
def s_Ze (p0:gC) (p1:((Int×(Int×(Int×(Int×Int))))×PUnit)):Int := (lpv (0:Int) (st_Ze_0 p0 p1) (0:Int))
abbrev pre_Ze (p0:gC) (p1:((Int×(Int×(Int×(Int×Int))))×PUnit)):List Prop := [(OkL (st_Ze_0 p0 p1) (sp_Ze_0 p0 p1) (0:Int))]
theorem d_Ze (p0:gC) (p1:((Int×(Int×(Int×(Int×Int))))×PUnit)) (K:Int→Prop) (hp:∀ p∈pre_Ze p0 p1,p) (h:K (s_Ze p0 p1)):w_Ze p0 p1 K := by
 unfold w_Ze
 unfold s_Ze at h
 obtain ⟨hp0,_⟩ := conj_of hp
 exact (loop_gen (hp0) h (fun y0 k0 hp h => by
 unfold st_Ze_0 at h; obtain ⟨hp0,hp1,_⟩ := conj_of hp
 exact (br' h (fun e1 h => ⟨(hp0 e1),(hp1 e1),(br' h (fun e2 h => h)
  (fun e2 h => h))⟩)
  (fun e1 h => h))))
/-- Whether a tick is in a range,in one of ranges. -/
def v_in (t:Int) (x:gG):Bool := s_Z3 t x.1 x.2
def v_hidx (l:gC) (t:Int):Int := v_scan (fun i x => cond (v_in t x) (some i) none) (-1) 0 l
def v_hit (l:gC) (t:Int):Bool := l.any (v_in t)
theorem l_Ze_0 (p0:gC) (p1:(Int×Int×Int×Int×Int)×PUnit) (hl:lenOk p0):OkL (st_Ze_0 p0 p1) (sp_Ze_0 p0 p1) 0∧lpv (0:Int) (st_Ze_0 p0 p1) 0 = v_scan (fun i x => cond (v_in p1.1.1 x) (some i) none) (-1) 0 p0 := by
 refine scan_is p0 (0,0) (fun i x => cond (v_in p1.1.1 x) (some i) none) (-1) hl ?_ ?_
 ·refine ⟨by simp only [sp_Ze_0,fM,decide_eq_true_eq]; simp,by simp [st_Ze_0]⟩
 ·intro j hj
  have hj' : (j:Int) < p0.length := by omega
  refine ⟨by simp only [sp_Ze_0,fM,decide_eq_true_eq,Int.toNat_natCast]; simp <;> omega,?_⟩
  simp only [st_Ze_0,hj',decide_true,Int.toNat_natCast,cond_true,wrap_nat (show (j:Int)≤9223372036854775806 by unfold lenOk at hl; omega)]
  have e:s_Z6 p1.1.1 (p0.getD j (0,0)).1 (p0.getD j (0,0)).2 = v_in p1.1.1 (p0.getD j (0,0)) := tx_withinG
  rw [e]
  cases v_in p1.1.1 (p0.getD j (0,0)) <;> rfl
abbrev t_Ze (p0:gC) (p1:(Int×Int×Int×Int×Int)×PUnit):Int := v_hidx p0 p1.1.1
abbrev qre_Ze (p0:gC) (_p1:(Int×Int×Int×Int×Int)×PUnit):List Prop := [lenOk p0]
theorem pp_Ze (p0:gC) (p1:(Int×Int×Int×Int×Int)×PUnit) (hq:∀ p∈qre_Ze p0 p1,p):∀ p∈pre_Ze p0 p1,p := by
 simp only [pre_Ze,fM]
 exact ⟨(l_Ze_0 p0 p1 (conj_of hq).1).1,by simp⟩
theorem tt_Ze (p0:gC) (p1:(Int×Int×Int×Int×Int)×PUnit) (hq:∀ p∈qre_Ze p0 p1,p):s_Ze p0 p1 = t_Ze p0 p1 := by
 exact (l_Ze_0 p0 p1 (conj_of hq).1).2

abbrev con_Ze:Con := ⟨P_Ze,R_Ze,fun x => qre_Ze x.1 x.2,fun x => t_Ze x.1 x.2⟩
theorem ok_Ze:ConOk Try.prog 119 con_Ze := okG k_Ze e_Ze hC_Ze fun x hx => tf_of (w_Ze_eq x.1 x.2 _) (d_Ze x.1 x.2 _ (pp_Ze x.1 x.2 hx) (tt_Ze x.1 x.2 hx))
end Go.Proofs.Ytdkhhafmidokmaa
