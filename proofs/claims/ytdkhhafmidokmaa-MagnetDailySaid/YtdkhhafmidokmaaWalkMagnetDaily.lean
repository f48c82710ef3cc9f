/- What the functions that MagnetDaily reaches compute: contracts, each function once. No condition. -/
import Derived.Test.YtdkhhafmidokmaaLayB
import Derived.Test.YtdkhhafmidokmaaAwMMagnetDaily
import Derived.KernelRfl
namespace Go.Proofs.Ytdkhhafmidokmaa
open Go Go.Mx
set_option maxRecDepth 100000
set_option maxHeartbeats 4000000
abbrev gF:=List Int
abbrev gG:=Int×Int
abbrev gA:=List (List Int×List Int)
abbrev gB:=List (Int×Int×Int)
abbrev gC:=List (Int×Int)
abbrev gE:=Int×List Int
abbrev gD:=(Int×List Int)×(Int×List Int)
theorem fM.{u} {α:Type u} {p:α→Prop} {a:α} {l:List α}:(∀ x∈a::l,p x) ↔ p a ∧ ∀ x∈l,p x := List.forall_mem_cons
theorem cC {P:Program} {f:FuncId} {ids:List FuncId} {c:Con} {C:Cons} (h:ConOk P f c) (hC:ConsOk P C) (hm:isMark ids=false := by rfl):ConsOk P ((f,ids,c)::C) := ConsOk.cons h hC hm
theorem okG {P:Program} {f:FuncId} {F:TFn} {A:Nat→Ty} {C:Cons} {ps rs:List PSh} {pre:(tyPs ps).den→List Prop} {s:(tyPs ps).den→(tyPs rs).den} (k:callable P f=true) (e:cFn P f=some F.erase) (hC:ConsOk P C) (h:∀ x,(∀ p∈pre x,p)→Tf F A C ps rs x (fun z => z=s x)):ConOk P f ⟨ps,rs,pre,s⟩ := ⟨k,fun x hx => ret_tf e hC (h x hx)⟩
abbrev wi (n:Int):Int := IntKind.i64.wrap n
abbrev zz0:Int := 0
abbrev zz1:Int := 1
abbrev zz2:Int := 2
theorem nof {p:Prop} (h:false = true):p := Bool.noConfusion h
theorem rf {p:Prop} {α:Sort _} {a:α} (_:p):a = a := rfl

def v_ceil (a b:Int):Int := -((-a) / b)
def C_Zk:Cons := []
theorem hC_Zk:ConsOk Try.prog C_Zk := ConsOk.nil
def w_Zk (p0:(Int×(List (Int×Int)))) (K:Bool→Prop):Prop := (K (decide ((p0.2.length:Int)≤22)))
theorem w_Zk_eq (p0:(Int×(List (Int×Int)))) (K:Bool→Prop):tfn F_Zk A_Zk C_Zk P_Zk R_Zk p0 K = w_Zk p0 K := by kernel_rfl
def s_Zk (p0:(Int×(List (Int×Int)))):Bool := (decide ((p0.2.length:Int)≤22))
abbrev pre_Zk (_p0:(Int×(List (Int×Int)))):List Prop := []
theorem d_Zk (p0:(Int×(List (Int×Int)))) (K:Bool→Prop) (_hp:∀ p∈pre_Zk p0,p) (h:K (s_Zk p0)):w_Zk p0 K := by
 unfold w_Zk
 unfold s_Zk at h
 exact h
abbrev con_Zk:Con := ⟨P_Zk,R_Zk,fun x => pre_Zk x,fun x => s_Zk x⟩
theorem ok_Zk:ConOk Try.prog 14 con_Zk := okG k_Zk e_Zk hC_Zk fun x hx => tf_of (w_Zk_eq x _) (d_Zk x _ hx rfl)
def C_Z2:Cons := []
theorem hC_Z2:ConsOk Try.prog C_Z2 := ConsOk.nil
def w_Z2 (p0:Int) (p1:Int) (p2:Int) (K:Bool→Prop):Prop := ((((decide (p1≤p0))=true) →((decide (p1≤p0))=(decide (p1≤p0)))) ∧((((decide (p1≤p0))=true) →((decide (p1≤p0))=(decide (p1≤p0)))) ∧(((decide (p1≤p0))=(decide (p1≤p0))) ∧(K (cond (decide (p1≤p0)) (decide (p0≤p2)) false)))))
theorem w_Z2_eq (p0:Int) (p1:Int) (p2:Int) (K:Bool→Prop):tfn F_Z2 A_Z2 C_Z2 P_Z2 R_Z2 (p0,p1,p2) K = w_Z2 p0 p1 p2 K := by kernel_rfl
def s_Z2 (p0:Int) (p1:Int) (p2:Int):Bool := (cond (decide (p1≤p0)) (decide (p0≤p2)) false)
abbrev pre_Z2 (_p0:Int) (_p1:Int) (_p2:Int):List Prop := []
theorem d_Z2 (p0:Int) (p1:Int) (p2:Int) (K:Bool→Prop) (_hp:∀ p∈pre_Z2 p0 p1 p2,p) (h:K (s_Z2 p0 p1 p2)):w_Z2 p0 p1 p2 K := by
 unfold w_Z2
 unfold s_Z2 at h
 exact ⟨rf,rf,rfl,h⟩
abbrev con_Z2:Con := ⟨P_Z2,R_Z2,fun x => pre_Z2 x.1 x.2.1 x.2.2,fun x => s_Z2 x.1 x.2.1 x.2.2⟩
theorem ok_Z2:ConOk Try.prog 17 con_Z2 := okG k_Z2 e_Z2 hC_Z2 fun x hx => tf_of (w_Z2_eq x.1 x.2.1 x.2.2 _) (d_Z2 x.1 x.2.1 x.2.2 _ hx rfl)
theorem tx_within {n lo hi:Int}:s_Z2 n lo hi = true ↔ lo≤n∧n≤hi := by unfold s_Z2; simp
def C_Zn:Cons := [(17,[],con_Z2)]
theorem hC_Zn:ConsOk Try.prog C_Zn := cC ok_Z2 <| ConsOk.nil
def w_Zn (p0:Int) (K:Bool→Prop):Prop := (K (s_Z2 p0 (-100000:Int) (100000:Int)))
theorem w_Zn_eq (p0:Int) (K:Bool→Prop):tfn F_Zn A_Zn C_Zn P_Zn R_Zn p0 K = w_Zn p0 K := by kernel_rfl
def s_Zn (p0:Int):Bool := (s_Z2 p0 (-100000:Int) (100000:Int))
abbrev pre_Zn (_p0:Int):List Prop := []
theorem d_Zn (p0:Int) (K:Bool→Prop) (_hp:∀ p∈pre_Zn p0,p) (h:K (s_Zn p0)):w_Zn p0 K := by
 unfold w_Zn
 unfold s_Zn at h
 exact h
abbrev con_Zn:Con := ⟨P_Zn,R_Zn,fun x => pre_Zn x,fun x => s_Zn x⟩
theorem ok_Zn:ConOk Try.prog 90 con_Zn := okG k_Zn e_Zn hC_Zn fun x hx => tf_of (w_Zn_eq x _) (d_Zn x _ hx rfl)
def C_Zm:Cons := [(17,[],con_Z2)]
theorem hC_Zm:ConsOk Try.prog C_Zm := cC ok_Z2 <| ConsOk.nil
def w_Zm (p0:Int) (K:Bool→Prop):Prop := (K (s_Z2 p0 zz0 (1000000000000:Int)))
theorem w_Zm_eq (p0:Int) (K:Bool→Prop):tfn F_Zm A_Zm C_Zm P_Zm R_Zm p0 K = w_Zm p0 K := by kernel_rfl
def s_Zm (p0:Int):Bool := (s_Z2 p0 (0:Int) (1000000000000:Int))
abbrev pre_Zm (_p0:Int):List Prop := []
theorem d_Zm (p0:Int) (K:Bool→Prop) (_hp:∀ p∈pre_Zm p0,p) (h:K (s_Zm p0)):w_Zm p0 K := by
 unfold w_Zm
 unfold s_Zm at h
 exact h
abbrev con_Zm:Con := ⟨P_Zm,R_Zm,fun x => pre_Zm x,fun x => s_Zm x⟩
theorem ok_Zm:ConOk Try.prog 88 con_Zm := okG k_Zm e_Zm hC_Zm fun x hx => tf_of (w_Zm_eq x _) (d_Zm x _ hx rfl)
def C_Z4:Cons := [(90,[],con_Zn),(88,[],con_Zm)]
theorem hC_Z4:ConsOk Try.prog C_Z4 := cC ok_Zn <| cC ok_Zm <| ConsOk.nil
abbrev q0_Z4 (p0:(Int×(List (Int×Int)))) (y1:Int) := (!(s_Z2 (p0.2.getD y1.toNat (zz0,zz0)).1 zz0 (1000000000000:Int)))
def w_Z4 (p0:(Int×(List (Int×Int)))) (K:(Int×Int)→Prop):Prop := ((((!(s_Z2 p0.1 (-100000:Int) (100000:Int)))=true) →(K (zz0,zz2))) ∧(((!(s_Z2 p0.1 (-100000:Int) (100000:Int)))=false) →((((decide ((p0.2.length:Int) < zz2))=true) →(K (zz0,(10:Int)))) ∧(((decide ((p0.2.length:Int) < zz2))=false) →((((decide ((p0.2.length:Int) > 20))=true) →(K (zz0,(8:Int)))) ∧(((decide ((p0.2.length:Int) > 20))=false) →(∃ n0,(loopP (fun (y1:Int) k2 => ((((decide (y1 < (p0.2.length:Int)))=true) →((zz0≤y1) ∧((y1 < (p0.2.length:Int)) ∧((((q0_Z4 p0 y1)=false) →((q0_Z4 p0 y1)=(q0_Z4 p0 y1))) ∧((((q0_Z4 p0 y1)=false) →((q0_Z4 p0 y1)=(q0_Z4 p0 y1))) ∧((((q0_Z4 p0 y1)=false) →((q0_Z4 p0 y1)=(q0_Z4 p0 y1))) ∧(((q0_Z4 p0 y1)=(q0_Z4 p0 y1)) ∧((((cond (q0_Z4 p0 y1) true (!(s_Z2 (p0.2.getD y1.toNat (zz0,zz0)).2 (-100000:Int) (100000:Int))))=true) →(K (y1,zz2))) ∧(((cond (q0_Z4 p0 y1) true (!(s_Z2 (p0.2.getD y1.toNat (zz0,zz0)).2 (-100000:Int) (100000:Int))))=false) →((((decide (y1 > zz0))=true) →((decide (y1 > zz0))=(decide (y1 > zz0)))) ∧((((decide (y1 > zz0))=true) →((decide (y1 > zz0))=(decide (y1 > zz0)))) ∧((((decide (y1 > zz0))=true) →((decide (y1 > zz0))=(decide (y1 > zz0)))) ∧((((decide (y1 > zz0))=true) →((decide (y1 > zz0))=(decide (y1 > zz0)))) ∧((((decide (y1 > zz0))=true) →((decide (y1 > zz0))=(decide (y1 > zz0)))) ∧((((decide (y1 > zz0))=true) →(zz0≤(wi (y1 - zz1)))) ∧((((decide (y1 > zz0))=true) →((wi (y1 - zz1)) < (p0.2.length:Int))) ∧((((decide (y1 > zz0))=true) →((decide (y1 > zz0))=(decide (y1 > zz0)))) ∧((((decide (y1 > zz0))=true) →((decide (y1 > zz0))=(decide (y1 > zz0)))) ∧((((decide (y1 > zz0))=true) →((decide (y1 > zz0))=(decide (y1 > zz0)))) ∧((((decide (y1 > zz0))=true) →((decide (y1 > zz0))=(decide (y1 > zz0)))) ∧(((decide (y1 > zz0))=(decide (y1 > zz0))) ∧((((cond (decide (y1 > zz0)) (decide ((p0.2.getD y1.toNat (zz0,zz0)).1≤(p0.2.getD (Int.toNat (wi (y1 - zz1))) (zz0,zz0)).1)) false)=true) →(K (y1,(9:Int)))) ∧(((cond (decide (y1 > zz0)) (decide ((p0.2.getD y1.toNat (zz0,zz0)).1≤(p0.2.getD (Int.toNat (wi (y1 - zz1))) (zz0,zz0)).1)) false)=false) →(k2 (wi (y1 + zz1)))))))))))))))))))))))))) ∧(((decide (y1 < (p0.2.length:Int)))=false) →(K (zz0,zz0))))) n0 zz0))))))))
theorem w_Z4_eq (p0:(Int×(List (Int×Int)))) (K:(Int×Int)→Prop):tfn F_Z4 A_Z4 C_Z4 P_Z4 R_Z4 p0 K = w_Z4 p0 K := by kernel_rfl
def st_Z4_0 (p0:(Int×(List (Int×Int)))) (y3:Int):Int ⊕ (Int×Int) := (cond (decide (y3 < (p0.2.length:Int))) (cond (cond (!(s_Z2 (p0.2.getD y3.toNat (0,0)).1 (0:Int) (1000000000000:Int))) true (!(s_Z2 (p0.2.getD y3.toNat (0,0)).2 (-100000:Int) (100000:Int)))) (Sum.inr (y3,(2:Int))) (cond (cond (decide (y3 > 0)) (decide ((p0.2.getD y3.toNat (0,0)).1≤(p0.2.getD (Int.toNat (IntKind.i64.wrap (y3 - 1))) (0,0)).1)) false) (Sum.inr (y3,(9:Int))) (Sum.inl (IntKind.i64.wrap (y3 + 1))))) (Sum.inr (0,0)))
abbrev sp_Z4_0 (p0:(Int×(List (Int×Int)))) (y3:Int):List Prop := [(((decide (y3 < (p0.2.length:Int)))=true)→((0:Int)≤y3)),(((decide (y3 < (p0.2.length:Int)))=true)→(y3 < (p0.2.length:Int))),(((decide (y3 < (p0.2.length:Int)))=true)→(((cond (!(s_Z2 (p0.2.getD y3.toNat (0,0)).1 (0:Int) (1000000000000:Int))) true (!(s_Z2 (p0.2.getD y3.toNat (0,0)).2 (-100000:Int) (100000:Int))))=false)→(((decide (y3 > 0))=true)→((0:Int)≤(IntKind.i64.wrap (y3 - 1)))))),(((decide (y3 < (p0.2.length:Int)))=true)→(((cond (!(s_Z2 (p0.2.getD y3.toNat (0,0)).1 (0:Int) (1000000000000:Int))) true (!(s_Z2 (p0.2.getD y3.toNat (0,0)).2 (-100000:Int) (100000:Int))))=false)→(((decide (y3 > 0))=true)→((IntKind.i64.wrap (y3 - 1)) < (p0.2.length:Int)))))]
def s_Z4 (p0:(Int×(List (Int×Int)))):(Int×Int) := (cond (!(s_Z2 p0.1 (-100000:Int) (100000:Int))) ((0:Int),(2:Int)) (cond (decide ((p0.2.length:Int) < 2)) ((0:Int),(10:Int)) (cond (decide ((p0.2.length:Int) > 20)) ((0:Int),(8:Int)) (lpv (0,0) (st_Z4_0 p0) (0:Int)))))
abbrev pre_Z4 (p0:(Int×(List (Int×Int)))):List Prop := [(((!(s_Z2 p0.1 (-100000:Int) (100000:Int)))=false)→(((decide ((p0.2.length:Int) < 2))=false)→(((decide ((p0.2.length:Int) > 20))=false)→(OkL (st_Z4_0 p0) (sp_Z4_0 p0) (0:Int)))))]
theorem d_Z4 (p0:(Int×(List (Int×Int)))) (K:(Int×Int)→Prop) (hp:∀ p∈pre_Z4 p0,p) (h:K (s_Z4 p0)):w_Z4 p0 K := by
 unfold w_Z4
 unfold s_Z4 at h
 obtain ⟨hp0,_⟩ := conj_of hp
 exact (br' h (fun e0 h => h)
  (fun e0 h => (br' h (fun e1 h => h)
  (fun e1 h => (br' h (fun e2 h => h)
  (fun e2 h => (loop_gen (hp0 e0 e1 e2) h (fun y3 k3 hp h => by
 unfold st_Z4_0 at h; obtain ⟨hp0,hp1,hp2,hp3,_⟩ := conj_of hp
 exact (br' h (fun e4 h => ⟨(hp0 e4),(hp1 e4),rf,rf,rf,rfl,(br' h (fun e5 h => h)
  (fun e5 h => ⟨rf,rf,rf,rf,rf,(hp2 e4 e5),(hp3 e4 e5),rf,rf,rf,rf,rfl,(br' h (fun e6 h => h)
  (fun e6 h => h))⟩))⟩)
  (fun e4 h => h))))))))))
/-- Whether a point is valid; what is wrong with one of a base station; with a base station. -/
def v_pval (x:gG):Bool := cond (s_Z2 x.1 0 1000000000000) (s_Z2 x.2 (-100000) 100000) false
def v_cb1 (l:gC) (i:Int) (x:gG):Option (Int×Int) := cond (v_pval x) (cond (cond (i == 0) true (decide (x.1 > (l.getD (i - 1).toNat (0,0)).1))) none (some (i,9))) (some (i,2))
def v_cb (b:Int×List (Int×Int)):Int×Int := cond (s_Z2 b.1 (-100000) 100000) (cond (decide ((b.2.length:Int) < 2)) (0,10) (cond (decide ((b.2.length:Int) > 20)) (0,8) (v_scan (v_cb1 b.2) (0,0) 0 b.2))) (0,2)
theorem v_pvalr {x:Int×Int}:cond (!(s_Z2 x.1 0 1000000000000)) true (!(s_Z2 x.2 (-100000) 100000)) = !(v_pval x) := by
 unfold v_pval
 cases s_Z2 x.1 0 1000000000000 <;> cases s_Z2 x.2 (-100000) 100000 <;> rfl
theorem l_Z4_0 (p0:Int×List (Int×Int)) (hl:p0.2.length≤20):OkL (st_Z4_0 p0) (sp_Z4_0 p0) 0∧lpv ((0,0):Int×Int) (st_Z4_0 p0) 0 = v_scan (v_cb1 p0.2) ((0,0):Int×Int) 0 p0.2 := by
 refine scan_is p0.2 (0,0) (v_cb1 p0.2) ((0,0):Int×Int) (lenOk_le hl (by decide)) ?_ ?_
 ·refine ⟨by simp only [sp_Z4_0,fM,decide_eq_true_eq]; simp,by simp [st_Z4_0]⟩
 ·intro j hj
  have hj' : (j:Int) < p0.2.length := by omega
  have hw := wrap_nat (show (j:Int)≤9223372036854775806 by omega)
  have hw2:IntKind.i64.wrap ((j:Int) - 1)=(j:Int) - 1 := wrap_id (by omega) (by omega)
  refine ⟨by simp only [sp_Z4_0,fM,decide_eq_true_eq,Int.toNat_natCast]; rw [hw2]; and_intros <;> first | (intro p hp; cases hp; done) | (intros; first | omega | (simp_all; done) | (simp_all; omega)),?_⟩
  simp only [st_Z4_0,hj',decide_true,Int.toNat_natCast,cond_true,hw,v_pvalr,hw2]
  unfold v_cb1
  cases v_pval (p0.2.getD j (0,0))
  ·rfl
  ·rcases int0 (j:Int) with ⟨hj0,_,z⟩ | ⟨hj0,_,z⟩ <;> rw [z]
   ·rw [decide_eq_false (show ¬ (j:Int) > 0 by omega)]; rfl
   ·rw [decide_eq_true (show (j:Int) > 0 by omega)]
    rcases dec0 (a := (p0.2.getD ((j:Int) - 1).toNat (0,0)).1) (b := (p0.2.getD j (0,0)).1) with ⟨_,c1,c2,c3,c4⟩ | ⟨_,c1,c2,c3,c4⟩ <;> simp only [c3,c4] <;> rfl
abbrev t_Z4 (p0:Int×List (Int×Int)):Int×Int := v_cb p0
abbrev qre_Z4 (_p0:Int×List (Int×Int)):List Prop := []
theorem pp_Z4 (p0:Int×List (Int×Int)) (_hq:∀ p∈qre_Z4 p0,p):∀ p∈pre_Z4 p0,p := by
 simp only [pre_Z4,fM]
 exact ⟨fun _ _ h => (l_Z4_0 p0 (by have := of_decide_eq_false h; omega)).1,by simp⟩
theorem tt_Z4 (p0:Int×List (Int×Int)) (_hq:∀ p∈qre_Z4 p0,p):s_Z4 p0 = t_Z4 p0 := by
 unfold s_Z4 t_Z4 v_cb
 cases s_Z2 p0.1 (-100000) 100000
 ·rfl
 cases decide ((p0.2.length:Int) < 2)
 ·cases h:decide ((p0.2.length:Int) > 20)
  ·rw [(l_Z4_0 p0 (by have := of_decide_eq_false h; omega)).2]; rfl
  ·rfl
 ·rfl

abbrev con_Z4:Con := ⟨P_Z4,R_Z4,fun x => qre_Z4 x,fun x => t_Z4 x⟩
theorem ok_Z4:ConOk Try.prog 64 con_Z4 := okG k_Z4 e_Z4 hC_Z4 fun x hx => tf_of (w_Z4_eq x _) (d_Z4 x _ (pp_Z4 x hx) (tt_Z4 x hx))
def C_Zl:Cons := [(64,[],con_Z4)]
theorem hC_Zl:ConsOk Try.prog C_Zl := cC ok_Z4 <| ConsOk.nil
def w_Zl (p0:(Int×(List (Int×Int)))) (K:Int→Prop):Prop := (K (v_cb p0).2)
theorem w_Zl_eq (p0:(Int×(List (Int×Int)))) (K:Int→Prop):tfn F_Zl A_Zl C_Zl P_Zl R_Zl p0 K = w_Zl p0 K := by kernel_rfl
def s_Zl (p0:(Int×(List (Int×Int)))):Int := (v_cb p0).2
abbrev pre_Zl (_p0:(Int×(List (Int×Int)))):List Prop := []
theorem d_Zl (p0:(Int×(List (Int×Int)))) (K:Int→Prop) (_hp:∀ p∈pre_Zl p0,p) (h:K (s_Zl p0)):w_Zl p0 K := by
 unfold w_Zl
 unfold s_Zl at h
 exact h
abbrev con_Zl:Con := ⟨P_Zl,R_Zl,fun x => pre_Zl x,fun x => s_Zl x⟩
theorem ok_Zl:ConOk Try.prog 15 con_Zl := okG k_Zl e_Zl hC_Zl fun x hx => tf_of (w_Zl_eq x _) (d_Zl x _ hx rfl)
def C_Z7:Cons := []
theorem hC_Z7:ConsOk Try.prog C_Z7 := ConsOk.nil
def w_Z7 (p0:Int) (p1:Int) (p2:Int) (K:Bool→Prop):Prop := ((((decide (p1≤p0))=true) →((decide (p1≤p0))=(decide (p1≤p0)))) ∧((((decide (p1≤p0))=true) →((decide (p1≤p0))=(decide (p1≤p0)))) ∧(((decide (p1≤p0))=(decide (p1≤p0))) ∧(K (cond (decide (p1≤p0)) (decide (p0≤p2)) false)))))
theorem w_Z7_eq (p0:Int) (p1:Int) (p2:Int) (K:Bool→Prop):tfn F_Z7 A_Z7 C_Z7 P_Z7 R_Z7 (p0,p1,p2) K = w_Z7 p0 p1 p2 K := by kernel_rfl
def s_Z7 (p0:Int) (p1:Int) (p2:Int):Bool := (cond (decide (p1≤p0)) (decide (p0≤p2)) false)
abbrev pre_Z7 (_p0:Int) (_p1:Int) (_p2:Int):List Prop := []
theorem d_Z7 (p0:Int) (p1:Int) (p2:Int) (K:Bool→Prop) (_hp:∀ p∈pre_Z7 p0 p1 p2,p) (h:K (s_Z7 p0 p1 p2)):w_Z7 p0 p1 p2 K := by
 unfold w_Z7
 unfold s_Z7 at h
 exact ⟨rf,rf,rfl,h⟩
abbrev con_Z7:Con := ⟨P_Z7,R_Z7,fun x => pre_Z7 x.1 x.2.1 x.2.2,fun x => s_Z7 x.1 x.2.1 x.2.2⟩
theorem ok_Z7:ConOk Try.prog 86 con_Z7 := okG k_Z7 e_Z7 hC_Z7 fun x hx => tf_of (w_Z7_eq x.1 x.2.1 x.2.2 _) (d_Z7 x.1 x.2.1 x.2.2 _ hx rfl)
theorem tx_withinG {n lo hi:Int}:s_Z7 n lo hi = s_Z2 n lo hi := rfl
def C_Z9:Cons := [(86,[],con_Z7)]
theorem hC_Z9:ConsOk Try.prog C_Z9 := cC ok_Z7 <| ConsOk.nil
def w_Z9 (p0:(Int×(List (Int×Int)))) (p1:Int) (K:Bool→Prop):Prop := ((zz0 < (p0.2.length:Int)) ∧((zz0≤(IntKind.i64.wrap ((p0.2.length:Int) - 1))) ∧(((IntKind.i64.wrap ((p0.2.length:Int) - 1)) < (p0.2.length:Int)) ∧(K (s_Z7 p1 (p0.2.getD (Int.toNat zz0) (zz0,zz0)).1 (p0.2.getD (Int.toNat (IntKind.i64.wrap ((p0.2.length:Int) - 1))) (zz0,zz0)).1)))))
theorem w_Z9_eq (p0:(Int×(List (Int×Int)))) (p1:Int) (K:Bool→Prop):tfn F_Z9 A_Z9 C_Z9 P_Z9 R_Z9 (p0,p1) K = w_Z9 p0 p1 K := by kernel_rfl
def s_Z9 (p0:(Int×(List (Int×Int)))) (p1:Int):Bool := (s_Z7 p1 (p0.2.getD (Int.toNat (0:Int)) (0,0)).1 (p0.2.getD (Int.toNat (IntKind.i64.wrap ((p0.2.length:Int) - 1))) (0,0)).1)
abbrev pre_Z9 (p0:(Int×(List (Int×Int)))) (_p1:Int):List Prop := [((0:Int) < (p0.2.length:Int)),((0:Int)≤(IntKind.i64.wrap ((p0.2.length:Int) - 1))),((IntKind.i64.wrap ((p0.2.length:Int) - 1)) < (p0.2.length:Int))]
theorem d_Z9 (p0:(Int×(List (Int×Int)))) (p1:Int) (K:Bool→Prop) (hp:∀ p∈pre_Z9 p0 p1,p) (h:K (s_Z9 p0 p1)):w_Z9 p0 p1 K := by
 unfold w_Z9
 unfold s_Z9 at h
 obtain ⟨hp0,hp1,hp2,_⟩ := conj_of hp
 exact ⟨(hp0),(hp1),(hp2),h⟩
/-- Whether a tick lies within a base station's. -/
def v_iw (b:Int×List (Int×Int)) (t:Int):Bool := s_Z2 t (b.2.getD 0 (0,0)).1 (b.2.getD (b.2.length - 1) (0,0)).1
abbrev t_Z9 (p0:Int×List (Int×Int)) (p1:Int):Bool := v_iw p0 p1
abbrev qre_Z9 (p0:Int×List (Int×Int)) (_p1:Int):List Prop := [0 < p0.2.length,p0.2.length≤1000]
theorem pp_Z9 (p0:Int×List (Int×Int)) (p1:Int) (hq:∀ p∈qre_Z9 p0 p1,p):∀ p∈pre_Z9 p0 p1,p := by
 obtain ⟨h1,h2,_⟩ := conj_of hq
 have hw:IntKind.i64.wrap ((p0.2.length:Int) - 1)=(p0.2.length:Int) - 1 := wrap_id (by omega) (by omega)
 simp only [pre_Z9,fM,hw]
 exact ⟨by omega,by omega,by omega,by simp⟩
theorem tt_Z9 (p0:Int×List (Int×Int)) (p1:Int) (hq:∀ p∈qre_Z9 p0 p1,p):s_Z9 p0 p1 = t_Z9 p0 p1 := by
 obtain ⟨h1,h2,_⟩ := conj_of hq
 have hw:IntKind.i64.wrap ((p0.2.length:Int) - 1)=((p0.2.length - 1:Nat):Int) := by rw [wrap_id (by omega) (by omega)]; omega
 unfold s_Z9 t_Z9 v_iw
 rw [hw,Int.toNat_natCast]
 exact tx_withinG ..

abbrev con_Z9:Con := ⟨P_Z9,R_Z9,fun x => qre_Z9 x.1 x.2,fun x => t_Z9 x.1 x.2⟩
theorem ok_Z9:ConOk Try.prog 67 con_Z9 := okG k_Z9 e_Z9 hC_Z9 fun x hx => tf_of (w_Z9_eq x.1 x.2 _) (d_Z9 x.1 x.2 _ (pp_Z9 x.1 x.2 hx) (tt_Z9 x.1 x.2 hx))
def C_Zc:Cons := [(17,[],con_Z2)]
theorem hC_Zc:ConsOk Try.prog C_Zc := cC ok_Z2 <| ConsOk.nil
def w_Zc (p0:(Int×(List (Int×Int)))) (p1:Int) (K:Bool→Prop):Prop := ((zz0 < (p0.2.length:Int)) ∧((zz0≤(IntKind.i64.wrap ((p0.2.length:Int) - 1))) ∧(((IntKind.i64.wrap ((p0.2.length:Int) - 1)) < (p0.2.length:Int)) ∧(K (s_Z2 p1 (p0.2.getD (Int.toNat zz0) (zz0,zz0)).1 (p0.2.getD (Int.toNat (IntKind.i64.wrap ((p0.2.length:Int) - 1))) (zz0,zz0)).1)))))
theorem w_Zc_eq (p0:(Int×(List (Int×Int)))) (p1:Int) (K:Bool→Prop):tfn F_Zc A_Zc C_Zc P_Zc R_Zc (p0,p1) K = w_Zc p0 p1 K := by kernel_rfl
def s_Zc (p0:(Int×(List (Int×Int)))) (p1:Int):Bool := (s_Z2 p1 (p0.2.getD (Int.toNat (0:Int)) (0,0)).1 (p0.2.getD (Int.toNat (IntKind.i64.wrap ((p0.2.length:Int) - 1))) (0,0)).1)
abbrev pre_Zc (p0:(Int×(List (Int×Int)))) (_p1:Int):List Prop := [((0:Int) < (p0.2.length:Int)),((0:Int)≤(IntKind.i64.wrap ((p0.2.length:Int) - 1))),((IntKind.i64.wrap ((p0.2.length:Int) - 1)) < (p0.2.length:Int))]
theorem d_Zc (p0:(Int×(List (Int×Int)))) (p1:Int) (K:Bool→Prop) (hp:∀ p∈pre_Zc p0 p1,p) (h:K (s_Zc p0 p1)):w_Zc p0 p1 K := by
 unfold w_Zc
 unfold s_Zc at h
 obtain ⟨hp0,hp1,hp2,_⟩ := conj_of hp
 exact ⟨(hp0),(hp1),(hp2),h⟩
abbrev t_Zc (p0:Int×List (Int×Int)) (p1:Int):Bool := v_iw p0 p1
abbrev qre_Zc (p0:Int×List (Int×Int)) (_p1:Int):List Prop := [0 < p0.2.length,p0.2.length≤1000]
theorem pp_Zc (p0:Int×List (Int×Int)) (p1:Int) (hq:∀ p∈qre_Zc p0 p1,p):∀ p∈pre_Zc p0 p1,p := by
 obtain ⟨h1,h2,_⟩ := conj_of hq
 have hw:IntKind.i64.wrap ((p0.2.length:Int) - 1)=(p0.2.length:Int) - 1 := wrap_id (by omega) (by omega)
 simp only [pre_Zc,fM,hw]
 exact ⟨by omega,by omega,by omega,by simp⟩
theorem tt_Zc (p0:Int×List (Int×Int)) (p1:Int) (hq:∀ p∈qre_Zc p0 p1,p):s_Zc p0 p1 = t_Zc p0 p1 := by
 obtain ⟨h1,h2,_⟩ := conj_of hq
 have hw:IntKind.i64.wrap ((p0.2.length:Int) - 1)=((p0.2.length - 1:Nat):Int) := by rw [wrap_id (by omega) (by omega)]; omega
 unfold s_Zc t_Zc v_iw
 rw [hw,Int.toNat_natCast]
 rfl

abbrev con_Zc:Con := ⟨P_Zc,R_Zc,fun x => qre_Zc x.1 x.2,fun x => t_Zc x.1 x.2⟩
theorem ok_Zc:ConOk Try.prog 16 con_Zc := okG k_Zc e_Zc hC_Zc fun x hx => tf_of (w_Zc_eq x.1 x.2 _) (d_Zc x.1 x.2 _ (pp_Zc x.1 x.2 hx) (tt_Zc x.1 x.2 hx))
def C_Zo:Cons := []
theorem hC_Zo:ConsOk Try.prog C_Zo := ConsOk.nil
def w_Zo (p0:(Int×(List (Int×Int)))) (K:(Int×(List (Int×Int)))→Prop):Prop := (((((List.length ([]:List (Int×Int))) + p0.2.length) * 16)≤140737488355328) ∧(K (p0.1,(([]:List (Int×Int)) ++ p0.2))))
theorem w_Zo_eq (p0:(Int×(List (Int×Int)))) (K:(Int×(List (Int×Int)))→Prop):tfnB F_Zo A_Zo C_Zo P_Zo .i64 E_Zo p0 K = w_Zo p0 K := by kernel_rfl
def s_Zo (p0:(Int×(List (Int×Int)))):(Int×(List (Int×Int))) := (p0.1,(([]:List (Int×Int)) ++ p0.2))
abbrev pre_Zo (p0:(Int×(List (Int×Int)))):List Prop := [((((List.length ([]:List (Int×Int))) + p0.2.length) * 16)≤140737488355328)]
theorem d_Zo (p0:(Int×(List (Int×Int)))) (K:(Int×(List (Int×Int)))→Prop) (hp:∀ p∈pre_Zo p0,p) (h:K (s_Zo p0)):w_Zo p0 K := by
 unfold w_Zo
 unfold s_Zo at h
 obtain ⟨hp0,_⟩ := conj_of hp
 exact ⟨(hp0),h⟩
abbrev con_Zo:Con := ⟨P_Zo,[.agg (.pr (.int .i64) (.sl E_Zo))],fun x => pre_Zo x,fun x => s_Zo x⟩
theorem ok_Zo:ConOOk Try.prog 19 con_Zo := conB_tf (k := .i64) (e := E_Zo) (ps := P_Zo) k_Zo e_Zo hC_Zo (fun x hx => tfb_of (w_Zo_eq x (fun z => z = s_Zo x)) (d_Zo x (fun z => z = s_Zo x) hx rfl))
def C_Zj:Cons := [(86,[],con_Z7)]
theorem hC_Zj:ConsOk Try.prog C_Zj := cC ok_Z7 <| ConsOk.nil
def w_Zj (p0:Int) (p1:Int) (K:Bool→Prop):Prop := (K (s_Z7 p0 (IntKind.i64.wrap (zz0 - p1)) p1))
theorem w_Zj_eq (p0:Int) (p1:Int) (K:Bool→Prop):tfn F_Zj A_Zj C_Zj P_Zj R_Zj (p0,p1) K = w_Zj p0 p1 K := by kernel_rfl
def s_Zj (p0:Int) (p1:Int):Bool := (s_Z7 p0 (IntKind.i64.wrap ((0:Int) - p1)) p1)
abbrev pre_Zj (_p0:Int) (_p1:Int):List Prop := []
theorem d_Zj (p0:Int) (p1:Int) (K:Bool→Prop) (_hp:∀ p∈pre_Zj p0 p1,p) (h:K (s_Zj p0 p1)):w_Zj p0 p1 K := by
 unfold w_Zj
 unfold s_Zj at h
 exact h
abbrev con_Zj:Con := ⟨P_Zj,R_Zj,fun x => pre_Zj x.1 x.2,fun x => s_Zj x.1 x.2⟩
theorem ok_Zj:ConOk Try.prog 83 con_Zj := okG k_Zj e_Zj hC_Zj fun x hx => tf_of (w_Zj_eq x.1 x.2 _) (d_Zj x.1 x.2 _ hx rfl)
def C_Zi:Cons := [(83,[],con_Zj)]
theorem hC_Zi:ConsOk Try.prog C_Zi := cC ok_Zj <| ConsOk.nil
def w_Zi (p0:Int) (K:Bool→Prop):Prop := (K (s_Z7 p0 (-100000:Int) (100000:Int)))
theorem w_Zi_eq (p0:Int) (K:Bool→Prop):tfn F_Zi A_Zi C_Zi P_Zi R_Zi p0 K = w_Zi p0 K := by kernel_rfl
def s_Zi (p0:Int):Bool := (s_Z7 p0 (-100000:Int) (100000:Int))
abbrev pre_Zi (_p0:Int):List Prop := []
theorem d_Zi (p0:Int) (K:Bool→Prop) (_hp:∀ p∈pre_Zi p0,p) (h:K (s_Zi p0)):w_Zi p0 K := by
 unfold w_Zi
 unfold s_Zi at h
 exact h
abbrev con_Zi:Con := ⟨P_Zi,R_Zi,fun x => pre_Zi x,fun x => s_Zi x⟩
theorem ok_Zi:ConOk Try.prog 85 con_Zi := okG k_Zi e_Zi hC_Zi fun x hx => tf_of (w_Zi_eq x _) (d_Zi x _ hx rfl)
def C_Z6:Cons := []
theorem hC_Z6:ConsOk Try.prog C_Z6 := ConsOk.nil
def w_Z6 (p0:gF) (K:Int→Prop):Prop := (∃ n0,(loopP (fun (y1:Int) k2 => ((((decide (y1 < (p0.length:Int)))=true) →((zz0≤y1) ∧((y1 < (p0.length:Int)) ∧(((((p0.getD y1.toNat zz0) != 0)=true) →(K (p0.getD y1.toNat zz0))) ∧((((p0.getD y1.toNat zz0) != 0)=false) →(k2 (IntKind.i64.wrap (y1 + 1)))))))) ∧(((decide (y1 < (p0.length:Int)))=false) →(K zz0)))) n0 zz0))
theorem w_Z6_eq (p0:gF) (K:Int→Prop):tfn F_Z6 A_Z6 C_Z6 P_Z6 R_Z6 p0 K = w_Z6 p0 K := by kernel_rfl
def st_Z6_0 (p0:gF) (y0:Int):Int ⊕ Int := (cond (decide (y0 < (p0.length:Int))) (cond ((p0.getD y0.toNat (0:Int)) != 0) (Sum.inr (p0.getD y0.toNat (0:Int))) (Sum.inl (IntKind.i64.wrap (y0 + 1)))) (Sum.inr (0:Int)))
abbrev sp_Z6_0 (p0:gF) (y0:Int):List Prop := [(((decide (y0 < (p0.length:Int)))=true)→((0:Int)≤y0)),(((decide (y0 < (p0.length:Int)))=true)→(y0 < (p0.length:Int)))]
def s_Z6 (p0:gF):Int := (lpv (0:Int) (st_Z6_0 p0) (0:Int))
abbrev pre_Z6 (p0:gF):List Prop := [(OkL (st_Z6_0 p0) (sp_Z6_0 p0) (0:Int))]
theorem d_Z6 (p0:gF) (K:Int→Prop) (hp:∀ p∈pre_Z6 p0,p) (h:K (s_Z6 p0)):w_Z6 p0 K := by
 unfold w_Z6
 unfold s_Z6 at h
 obtain ⟨hp0,_⟩ := conj_of hp
 exact (loop_gen (hp0) h (fun y0 k0 hp h => by
 unfold st_Z6_0 at h; obtain ⟨hp0,hp1,_⟩ := conj_of hp
 exact (br' h (fun e1 h => ⟨(hp0 e1),(hp1 e1),(br' h (fun e2 h => h)
  (fun e2 h => h))⟩)
  (fun e1 h => h))))
theorem l_Z6_0 (p0:gF) (hl:lenOk p0):OkL (st_Z6_0 p0) (sp_Z6_0 p0) 0∧lpv (0:Int) (st_Z6_0 p0) 0 = v_scan (fun _ x => cond (x != 0) (some x) none) (0:Int) 0 p0 := by
 refine scan_is p0 0 (fun _ x => cond (x != 0) (some x) none) (0:Int) hl ?_ ?_
 ·refine ⟨by simp only [sp_Z6_0,fM,decide_eq_true_eq]; simp,by simp [st_Z6_0]⟩
 ·intro j hj
  have hj' : (j:Int) < p0.length := by omega
  refine ⟨by simp only [sp_Z6_0,fM,decide_eq_true_eq,Int.toNat_natCast]; simp <;> omega,?_⟩
  simp only [st_Z6_0,hj',decide_true,Int.toNat_natCast,cond_true,wrap_nat (show (j:Int)≤9223372036854775806 by unfold lenOk at hl; omega)]
  generalize p0.getD j 0 = x
  cases (x != 0) <;> rfl
abbrev t_Z6 (p0:gF):Int := v_first p0
abbrev qre_Z6 (p0:gF):List Prop := [lenOk p0]
theorem pp_Z6 (p0:gF) (hq:∀ p∈qre_Z6 p0,p):∀ p∈pre_Z6 p0,p := by
 simp only [pre_Z6,fM]
 exact ⟨(l_Z6_0 p0 (conj_of hq).1).1,by simp⟩
theorem tt_Z6 (p0:gF) (hq:∀ p∈qre_Z6 p0,p):s_Z6 p0 = t_Z6 p0 := by
 exact (l_Z6_0 p0 (conj_of hq).1).2.trans (v_first_scan p0 0)

abbrev con_Z6:Con := ⟨P_Z6,R_Z6,fun x => qre_Z6 x,fun x => t_Z6 x⟩
theorem ok_Z6:ConOk Try.prog 71 con_Z6 := okG k_Z6 e_Z6 hC_Z6 fun x hx => tf_of (w_Z6_eq x _) (d_Z6 x _ (pp_Z6 x hx) (tt_Z6 x hx))
def C_Z5:Cons := []
theorem hC_Z5:ConsOk Try.prog C_Z5 := ConsOk.nil
def w_Z5 (p0:Bool) (p1:Int) (K:Int→Prop):Prop := (((p0 = true) →(K zz0)) ∧((p0 = false) →(K p1)))
theorem w_Z5_eq (p0:Bool) (p1:Int) (K:Int→Prop):tfn F_Z5 A_Z5 C_Z5 P_Z5 R_Z5 (p0,p1) K = w_Z5 p0 p1 K := by kernel_rfl
def s_Z5 (p0:Bool) (p1:Int):Int := (cond p0 (0:Int) p1)
abbrev pre_Z5 (_p0:Bool) (_p1:Int):List Prop := []
theorem d_Z5 (p0:Bool) (p1:Int) (K:Int→Prop) (_hp:∀ p∈pre_Z5 p0 p1,p) (h:K (s_Z5 p0 p1)):w_Z5 p0 p1 K := by
 unfold w_Z5
 unfold s_Z5 at h
 exact (br' h (fun e0 h => h)
  (fun e0 h => h))
abbrev con_Z5:Con := ⟨P_Z5,R_Z5,fun x => pre_Z5 x.1 x.2,fun x => s_Z5 x.1 x.2⟩
theorem ok_Z5:ConOk Try.prog 66 con_Z5 := okG k_Z5 e_Z5 hC_Z5 fun x hx => tf_of (w_Z5_eq x.1 x.2 _) (d_Z5 x.1 x.2 _ hx rfl)
theorem tx_unless {a:Bool} {x:Int}:s_Z5 a x = cond a 0 x := by cases a <;> rfl
structure v_ser (l:gF):Prop where
 ne:0 < l.length
 len:l.length≤40
 ok:∀ x∈l,-100000≤x∧x≤100000
def C_Zb:Cons := []
theorem hC_Zb:ConsOk Try.prog C_Zb := ConsOk.nil
def w_Zb (p0:Int) (p1:Int) (K:(Int×Int)→Prop):Prop := ((p1 ≠ zz0) ∧((p1 ≠ zz0) ∧((((decide ((Int.tmod p0 p1) < 0))=true) →(((((IntKind.i64.wrap ((IntKind.i64.wrap ((IntKind.i64.wrap (Int.tdiv p0 p1)) - 1)) * p1)) != p0)=true) →(K ((IntKind.i64.wrap ((IntKind.i64.wrap (Int.tdiv p0 p1)) - 1)),(IntKind.i64.wrap ((IntKind.i64.wrap ((IntKind.i64.wrap (Int.tdiv p0 p1)) - 1)) + 1))))) ∧((((IntKind.i64.wrap ((IntKind.i64.wrap ((IntKind.i64.wrap (Int.tdiv p0 p1)) - 1)) * p1)) != p0)=false) →(K ((IntKind.i64.wrap ((IntKind.i64.wrap (Int.tdiv p0 p1)) - 1)),(IntKind.i64.wrap ((IntKind.i64.wrap (Int.tdiv p0 p1)) - 1))))))) ∧(((decide ((Int.tmod p0 p1) < 0))=false) →(((((IntKind.i64.wrap ((IntKind.i64.wrap (Int.tdiv p0 p1)) * p1)) != p0)=true) →(K ((IntKind.i64.wrap (Int.tdiv p0 p1)),(IntKind.i64.wrap ((IntKind.i64.wrap (Int.tdiv p0 p1)) + 1))))) ∧((((IntKind.i64.wrap ((IntKind.i64.wrap (Int.tdiv p0 p1)) * p1)) != p0)=false) →(K ((IntKind.i64.wrap (Int.tdiv p0 p1)),(IntKind.i64.wrap (Int.tdiv p0 p1))))))))))
theorem w_Zb_eq (p0:Int) (p1:Int) (K:(Int×Int)→Prop):tfn F_Zb A_Zb C_Zb P_Zb R_Zb (p0,p1) K = w_Zb p0 p1 K := by kernel_rfl
def s_Zb (p0:Int) (p1:Int):(Int×Int) := (cond (decide ((Int.tmod p0 p1) < 0)) (cond ((IntKind.i64.wrap ((IntKind.i64.wrap ((IntKind.i64.wrap (Int.tdiv p0 p1)) - 1)) * p1)) != p0) ((IntKind.i64.wrap ((IntKind.i64.wrap (Int.tdiv p0 p1)) - 1)),(IntKind.i64.wrap ((IntKind.i64.wrap ((IntKind.i64.wrap (Int.tdiv p0 p1)) - 1)) + 1))) ((IntKind.i64.wrap ((IntKind.i64.wrap (Int.tdiv p0 p1)) - 1)),(IntKind.i64.wrap ((IntKind.i64.wrap (Int.tdiv p0 p1)) - 1)))) (cond ((IntKind.i64.wrap ((IntKind.i64.wrap (Int.tdiv p0 p1)) * p1)) != p0) ((IntKind.i64.wrap (Int.tdiv p0 p1)),(IntKind.i64.wrap ((IntKind.i64.wrap (Int.tdiv p0 p1)) + 1))) ((IntKind.i64.wrap (Int.tdiv p0 p1)),(IntKind.i64.wrap (Int.tdiv p0 p1)))))
abbrev pre_Zb (_p0:Int) (p1:Int):List Prop := [(p1 ≠ (0:Int))]
theorem d_Zb (p0:Int) (p1:Int) (K:(Int×Int)→Prop) (hp:∀ p∈pre_Zb p0 p1,p) (h:K (s_Zb p0 p1)):w_Zb p0 p1 K := by
 unfold w_Zb
 unfold s_Zb at h
 obtain ⟨hp0,_⟩ := conj_of hp
 exact ⟨(hp0),(hp0),(br' h (fun e0 h => (br' h (fun e1 h => h)
  (fun e1 h => h)))
  (fun e0 h => (br' h (fun e2 h => h)
  (fun e2 h => h))))⟩
abbrev t_Zb (p0:Int) (p1:Int):Int×Int := (p0 / p1,v_ceil p0 p1)
abbrev qre_Zb (p0:Int) (p1:Int):List Prop := [-4611686018427387904≤p0∧p0≤4611686018427387904,0 < p1∧p1≤4611686018427387904]
theorem pp_Zb (p0:Int) (p1:Int) (hq:∀ p∈qre_Zb p0 p1,p):∀ p∈pre_Zb p0 p1,p := by
 obtain ⟨h1,h2,_⟩ := conj_of hq
 simp only [pre_Zb,fM]
 exact ⟨by omega,by simp⟩
theorem tt_Zb (p0:Int) (p1:Int) (hq:∀ p∈qre_Zb p0 p1,p):s_Zb p0 p1 = t_Zb p0 p1 := by
 obtain ⟨h1,h2,_⟩ := conj_of hq
 have hf := floor_is (n := p0) (b := p1) ⟨by omega,by omega⟩ h2.1
 have m1 := Int.mul_ediv_add_emod p0 p1
 have m2 := Int.emod_nonneg p0 (show p1 ≠ 0 by omega)
 have m3 := Int.emod_lt_of_pos p0 h2.1
 have m4:p1 * (p0 / p1)=p0 / p1 * p1 := Int.mul_comm _ _
 have hd:(p0 / p1).natAbs≤p0.natAbs := Int.natAbs_ediv_le_natAbs _ _
 have w1:IntKind.i64.wrap (p0 / p1 * p1)=p0 / p1 * p1 := wrap_id (by omega) (by omega)
 have w2:IntKind.i64.wrap (p0 / p1 + 1)=p0 / p1 + 1 := wrap_id (by omega) (by omega)
 have hc:v_ceil p0 p1 = cond ((p0 / p1 * p1) != p0) (p0 / p1 + 1) (p0 / p1) := by
  unfold v_ceil
  by_cases e:p0 / p1 * p1 = p0
  ·rw [bne_eq_false_iff_eq.2 e,cond_false]
   have := ((Int.ediv_emod_unique (a := -p0) (b := p1) (q := -(p0 / p1)) (r := 0) h2.1).2 ⟨by rw [Int.mul_neg]; omega,by omega,h2.1⟩).1
   omega
  ·rw [bne_iff_ne.2 e,cond_true]
   have := ((Int.ediv_emod_unique (a := -p0) (b := p1) (q := -(p0 / p1) - 1) (r := p1 - p0 % p1) h2.1).2 ⟨by rw [Int.mul_sub,Int.mul_neg,Int.mul_one]; omega,by omega,by omega⟩).1
   omega
 unfold s_Zb t_Zb
 cases c:decide (p0.tmod p1 < 0) <;> rw [c] at hf <;> simp only [cond_true,cond_false] at hf ⊢ <;> rw [hf,w1,w2,hc] <;> cases (p0 / p1 * p1 != p0) <;> rfl

abbrev con_Zb:Con := ⟨P_Zb,R_Zb,fun x => qre_Zb x.1 x.2,fun x => t_Zb x.1 x.2⟩
theorem ok_Zb:ConOk Try.prog 68 con_Zb := okG k_Zb e_Zb hC_Zb fun x hx => tf_of (w_Zb_eq x.1 x.2 _) (d_Zb x.1 x.2 _ (pp_Zb x.1 x.2 hx) (tt_Zb x.1 x.2 hx))
def C_Zh:Cons := [(86,[],con_Z7)]
theorem hC_Zh:ConsOk Try.prog C_Zh := cC ok_Z7 <| ConsOk.nil
def w_Zh (p0:Int) (K:Bool→Prop):Prop := (K (s_Z7 p0 zz0 (1000000000000:Int)))
theorem w_Zh_eq (p0:Int) (K:Bool→Prop):tfn F_Zh A_Zh C_Zh P_Zh R_Zh p0 K = w_Zh p0 K := by kernel_rfl
def s_Zh (p0:Int):Bool := (s_Z7 p0 (0:Int) (1000000000000:Int))
abbrev pre_Zh (_p0:Int):List Prop := []
theorem d_Zh (p0:Int) (K:Bool→Prop) (_hp:∀ p∈pre_Zh p0,p) (h:K (s_Zh p0)):w_Zh p0 K := by
 unfold w_Zh
 unfold s_Zh at h
 exact h
abbrev con_Zh:Con := ⟨P_Zh,R_Zh,fun x => pre_Zh x,fun x => s_Zh x⟩
theorem ok_Zh:ConOk Try.prog 84 con_Zh := okG k_Zh e_Zh hC_Zh fun x hx => tf_of (w_Zh_eq x _) (d_Zh x _ hx rfl)
theorem tx_first2 {x y:Int}:v_first [x,y]=cond (x != 0) x y := by
 simp only [v_first]
 cases h:(x != 0)
 ·cases h2:(y != 0)
  ·simp at h2; subst h2; rfl
  ·rfl
 ·rfl
/-- Valid samples. -/
structure v_sok1 (q:Int×Int×Int×Int×Int):Prop where
 t:0≤q.1∧q.1≤1000000000000
 x : -10≤q.2.1∧q.2.1≤10
 y : -10≤q.2.2.1∧q.2.2.1≤10
 z : -10≤q.2.2.2.1∧q.2.2.2.1≤10
 v : -100000≤q.2.2.2.2∧q.2.2.2.2≤100000
structure v_smp (l:List (Int×Int×Int×Int×Int)):Prop where
 ne:l ≠ []
 len:l.length≤20
 ok:∀ x∈l,v_sok1 x
 asc:∀ k,0 < k→k < l.length→(l.getD (k - 1) (0,0,0,0,0)).1 < (l.getD k (0,0,0,0,0)).1
theorem tx_first3 {x y z:Int}:v_first [x,y,z]=cond (x != 0) x (cond (y != 0) y z) := by
 simp only [v_first]
 cases h:(x != 0)
 ·cases h2:(y != 0)
  ·cases h3:(z != 0)
   ·simp at h3; subst h3; rfl
   ·rfl
  ·rfl
 ·rfl
def C_Z3:Cons := [(85,[],con_Zi),(66,[],con_Z5),(71,[],con_Z6),(84,[],con_Zh)]
theorem hC_Z3:ConsOk Try.prog C_Z3 := cC ok_Zi <| cC ok_Z5 <| cC ok_Z6 <| cC ok_Zh <| ConsOk.nil
abbrev q2_Z3 (p0:(Int×(List (Int×Int)))) (y1:gG) := (s_Z7 (p0.2.getD y1.1.toNat (zz0,zz0)).1 zz0 (1000000000000:Int))
abbrev q0_Z3 (p0:(Int×(List (Int×Int)))) (y1:gG) := ((s_Z5 (cond (q2_Z3 p0 y1) (s_Z7 (p0.2.getD y1.1.toNat (zz0,zz0)).2 (-100000:Int) (100000:Int)) false) zz2) :: ((s_Z5 (decide ((p0.2.getD y1.1.toNat (zz0,zz0)).1 > y1.2)) (9:Int)) :: ([]:List Int)))
abbrev q1_Z3 (p0:(Int×(List (Int×Int)))) := ((s_Z5 (s_Z7 p0.1 (-100000:Int) (100000:Int)) zz2) :: ((s_Z5 (decide ((p0.2.length:Int) ≥ zz2)) (10:Int)) :: ((s_Z5 (decide ((p0.2.length:Int)≤20)) (8:Int)) :: ([]:List Int))))
def w_Z3 (p0:(Int×(List (Int×Int)))) (K:(Int×Int)→Prop):Prop := ((lenOk (q1_Z3 p0)) ∧(((((v_first (q1_Z3 p0)) != zz0)=true) →(K (zz0,(v_first (q1_Z3 p0))))) ∧((((v_first (q1_Z3 p0)) != zz0)=false) →(∃ n0,(loopP (fun (y1:gG) k2 => ((((decide (y1.1 < (p0.2.length:Int)))=true) →((zz0≤y1.1) ∧((y1.1 < (p0.2.length:Int)) ∧((((q2_Z3 p0 y1)=true) →((q2_Z3 p0 y1)=(q2_Z3 p0 y1))) ∧((((q2_Z3 p0 y1)=true) →((q2_Z3 p0 y1)=(q2_Z3 p0 y1))) ∧(((q2_Z3 p0 y1)=(q2_Z3 p0 y1)) ∧((lenOk (q0_Z3 p0 y1)) ∧(((((v_first (q0_Z3 p0 y1)) != zz0)=true) →(K (y1.1,(v_first (q0_Z3 p0 y1))))) ∧((((v_first (q0_Z3 p0 y1)) != zz0)=false) →(k2 ((wi (y1.1 + zz1)),(p0.2.getD y1.1.toNat (zz0,zz0)).1))))))))))) ∧(((decide (y1.1 < (p0.2.length:Int)))=false) →(K (zz0,zz0))))) n0 (zz0,(-1:Int)))))))
theorem w_Z3_eq (p0:(Int×(List (Int×Int)))) (K:(Int×Int)→Prop):tfn F_Z3 A_Z3 C_Z3 P_Z3 R_Z3 p0 K = w_Z3 p0 K := by kernel_rfl
def st_Z3_0 (p0:(Int×(List (Int×Int)))) (y1:gG):(Int×Int) ⊕ (Int×Int) := (cond (decide (y1.1 < (p0.2.length:Int))) (cond ((v_first ((s_Z5 (cond (s_Z7 (p0.2.getD y1.1.toNat (0,0)).1 (0:Int) (1000000000000:Int)) (s_Z7 (p0.2.getD y1.1.toNat (0,0)).2 (-100000:Int) (100000:Int)) false) (2:Int)) :: ((s_Z5 (decide ((p0.2.getD y1.1.toNat (0,0)).1 > y1.2)) (9:Int)) :: ([]:List Int)))) != 0) (Sum.inr (y1.1,(v_first ((s_Z5 (cond (s_Z7 (p0.2.getD y1.1.toNat (0,0)).1 (0:Int) (1000000000000:Int)) (s_Z7 (p0.2.getD y1.1.toNat (0,0)).2 (-100000:Int) (100000:Int)) false) (2:Int)) :: ((s_Z5 (decide ((p0.2.getD y1.1.toNat (0,0)).1 > y1.2)) (9:Int)) :: ([]:List Int)))))) (Sum.inl ((IntKind.i64.wrap (y1.1 + 1)),(p0.2.getD y1.1.toNat (0,0)).1))) (Sum.inr (0,0)))
abbrev sp_Z3_0 (p0:(Int×(List (Int×Int)))) (y1:gG):List Prop := [(((decide (y1.1 < (p0.2.length:Int)))=true)→((0:Int)≤y1.1)),(((decide (y1.1 < (p0.2.length:Int)))=true)→(y1.1 < (p0.2.length:Int)))]
def s_Z3 (p0:(Int×(List (Int×Int)))):(Int×Int) := (cond ((v_first ((s_Z5 (s_Z7 p0.1 (-100000:Int) (100000:Int)) (2:Int)) :: ((s_Z5 (decide ((p0.2.length:Int) ≥ 2)) (10:Int)) :: ((s_Z5 (decide ((p0.2.length:Int)≤20)) (8:Int)) :: ([]:List Int))))) != 0) ((0:Int),(v_first ((s_Z5 (s_Z7 p0.1 (-100000:Int) (100000:Int)) (2:Int)) :: ((s_Z5 (decide ((p0.2.length:Int) ≥ 2)) (10:Int)) :: ((s_Z5 (decide ((p0.2.length:Int)≤20)) (8:Int)) :: ([]:List Int)))))) (lpv (0,0) (st_Z3_0 p0) ((0:Int),(-1:Int))))
abbrev pre_Z3 (p0:(Int×(List (Int×Int)))):List Prop := [((((v_first ((s_Z5 (s_Z7 p0.1 (-100000:Int) (100000:Int)) (2:Int)) :: ((s_Z5 (decide ((p0.2.length:Int) ≥ 2)) (10:Int)) :: ((s_Z5 (decide ((p0.2.length:Int)≤20)) (8:Int)) :: ([]:List Int))))) != 0)=false)→(OkL (st_Z3_0 p0) (sp_Z3_0 p0) ((0:Int),(-1:Int))))]
theorem d_Z3 (p0:(Int×(List (Int×Int)))) (K:(Int×Int)→Prop) (hp:∀ p∈pre_Z3 p0,p) (h:K (s_Z3 p0)):w_Z3 p0 K := by
 unfold w_Z3
 unfold s_Z3 at h
 obtain ⟨hp0,_⟩ := conj_of hp
 exact ⟨(lenOk_of 3 rfl (by decide)),(br' h (fun e0 h => h)
  (fun e0 h => (loop_gen (hp0 e0) h (fun y1 k1 hp h => by
 unfold st_Z3_0 at h; obtain ⟨hp0,hp1,_⟩ := conj_of hp
 exact (br' h (fun e2 h => ⟨(hp0 e2),(hp1 e2),rf,rf,rfl,(lenOk_of 2 rfl (by decide)),(br' h (fun e3 h => h)
  (fun e3 h => h))⟩)
  (fun e2 h => h))))))⟩
theorem tx_cbh {d n:Int}:v_first [s_Z5 (s_Z7 d (-100000) 100000) 2,s_Z5 (decide (n ≥ 2)) 10,s_Z5 (decide (n≤20)) 8]=cond (s_Z2 d (-100000) 100000) (cond (decide (n < 2)) 10 (cond (decide (n > 20)) 8 0)) 2 := by
 rw [tx_first3,tx_unless,tx_unless,tx_unless,tx_withinG]
 cases s_Z2 d (-100000) 100000
 ·rfl
 rcases dec0 (a := n) (b := 2) with ⟨h,c1,c2,c3,c4⟩ | ⟨h,c1,c2,c3,c4⟩
 ·rw [decide_eq_false (show ¬ n ≥ 2 by omega),decide_eq_true (show n < 2 by omega)]; rfl
 ·rw [decide_eq_true (show n ≥ 2 by omega),decide_eq_false (show ¬ n < 2 by omega)]
  rcases Int.lt_or_le 20 n with g | g
  ·rw [decide_eq_false (show ¬ n≤20 by omega),decide_eq_true (show n > 20 by omega)]; rfl
  ·rw [decide_eq_true (show n≤20 by omega),decide_eq_false (show ¬ n > 20 by omega)]; rfl
theorem tx_blen {p0:Int×List (Int×Int)} (h:(v_first [s_Z5 (s_Z7 p0.1 (-100000) 100000) 2,s_Z5 (decide ((p0.2.length:Int) ≥ 2)) 10,s_Z5 (decide ((p0.2.length:Int)≤20)) 8] != 0)=false):p0.2.length≤20 := by
 rw [tx_cbh] at h
 cases c1:s_Z2 p0.1 (-100000) 100000 <;> rw [c1] at h
 ·cases h
 cases c2:decide ((p0.2.length:Int) < 2) <;> rw [c2] at h
 ·cases c:decide ((p0.2.length:Int) > 20)
  ·have := of_decide_eq_false c; omega
  ·rw [c] at h; cases h
 ·cases h
theorem v_pvalm {x:Int×Int}:cond (s_Z7 x.1 0 1000000000000) (s_Z7 x.2 (-100000) 100000) false = v_pval x := by
 rw [tx_withinG,tx_withinG]; rfl
theorem v_pval_t {x:Int×Int} (h:v_pval x = true):(0≤x.1∧x.1≤1000000000000)∧-100000≤x.2∧x.2≤100000 := by
 unfold v_pval at h
 cases c:s_Z2 x.1 0 1000000000000 <;> rw [c] at h
 ·cases h
 ·exact ⟨tx_within.1 c,tx_within.1 h⟩
theorem l_Z3_0 (p0:Int×List (Int×Int)) (hl:p0.2.length≤20):OkL (st_Z3_0 p0) (sp_Z3_0 p0) (0,-1)∧lpv ((0,0):Int×Int) (st_Z3_0 p0) (0,-1)=v_scan (v_cb1 p0.2) ((0,0):Int×Int) 0 p0.2 := by
 refine @for_is Int (Int×Int) (Int×Int) (0,0) (st_Z3_0 p0) (sp_Z3_0 p0) (fun i t => (i,t)) 0 p0.2.length (fun j t => t = if j = 0 then -1 else (p0.2.getD (j - 1) (0,0)).1) (fun j _ => v_scan (v_cb1 p0.2) ((0,0):Int×Int) (j:Int) (p0.2.drop j)) (by omega) (by omega) ?_ ?_ (-1) rfl
 ·intro t _
  rw [List.drop_length]
  simp only [sp_Z3_0,st_Z3_0,fM,show decide ((p0.2.length:Int) < (p0.2.length:Int))=false from decide_eq_false (by omega),cond_false]
  refine ⟨?_,rfl⟩
  and_intros
  all_goals first
   | (intro h; cases h; done)
   | (intro p hp; cases hp)
 ·intro j t _ hj ht
  have hd1:decide ((j:Int) < (p0.2.length:Int))=true := decide_eq_true (by omega)
  have hw1:IntKind.i64.wrap ((j:Int) + 1)=((j + 1:Nat):Int) := wrap_id (by omega) (by omega)
  rw [drop_getD (0,0) hj]
  have e:v_scan (v_cb1 p0.2) ((0,0):Int×Int) (j:Int) (p0.2.getD j (0,0) :: p0.2.drop (j + 1))=match v_cb1 p0.2 (j:Int) (p0.2.getD j (0,0)) with | none => v_scan (v_cb1 p0.2) ((0,0):Int×Int) ((j:Int) + 1) (p0.2.drop (j + 1)) | some v => v := by simp only [v_scan]; cases v_cb1 p0.2 (j:Int) (p0.2.getD j (0,0)) <;> rfl
  rw [e,show (j:Int) + 1 = ((j + 1:Nat):Int) by omega]
  simp only [sp_Z3_0,st_Z3_0,fM,hd1,cond_true,hw1,Int.toNat_natCast,v_pvalm,tx_unless,tx_first2]
  refine ⟨?_,?_⟩
  ·and_intros
   all_goals first
    | (intro p hp; cases hp; done)
    | (intros; omega)
  ·unfold v_cb1
   cases hv:v_pval (p0.2.getD j (0,0))
   ·exact .inr rfl
   ·have h0 := (v_pval_t hv).1.1
    rcases Nat.eq_zero_or_pos j with rfl | hp
    ·rw [if_pos rfl] at ht
     rw [ht,decide_eq_true (show (p0.2.getD 0 (0,0)).1 > -1 by omega)]
     exact .inl ⟨_,rfl,by simp,rfl⟩
    ·rw [if_neg (by omega)] at ht
     rw [show ((j:Int) == 0)=false from beq_eq_false_iff_ne.2 (by omega),show ((j:Int) - 1).toNat = j - 1 by omega,ht]
     cases decide ((p0.2.getD j (0,0)).1 > (p0.2.getD (j - 1) (0,0)).1)
     ·exact .inr rfl
     ·exact .inl ⟨_,rfl,by simp,rfl⟩
abbrev t_Z3 (p0:Int×List (Int×Int)):Int×Int := v_cb p0
abbrev qre_Z3 (_p0:Int×List (Int×Int)):List Prop := []
theorem pp_Z3 (p0:Int×List (Int×Int)) (_hq:∀ p∈qre_Z3 p0,p):∀ p∈pre_Z3 p0,p := by
 simp only [pre_Z3,fM]
 refine ⟨fun h => ?_,by simp⟩
 exact (l_Z3_0 p0 (tx_blen h)).1
theorem tt_Z3 (p0:Int×List (Int×Int)) (_hq:∀ p∈qre_Z3 p0,p):s_Z3 p0 = t_Z3 p0 := by
 unfold s_Z3 t_Z3 v_cb
 rw [tx_cbh]
 cases s_Z2 p0.1 (-100000) 100000
 ·rfl
 cases decide ((p0.2.length:Int) < 2)
 ·cases h:decide ((p0.2.length:Int) > 20)
  ·rw [(l_Z3_0 p0 (by have := of_decide_eq_false h; omega)).2]; rfl
  ·rfl
 ·rfl
/-- Valid base stations and rules. -/
structure v_bok (b:Int×List (Int×Int)):Prop where
 d : -100000≤b.1∧b.1≤100000
 two:2≤b.2.length
 len:b.2.length≤20
 ok:∀ k,k < b.2.length→(0≤(b.2.getD k (0,0)).1∧(b.2.getD k (0,0)).1≤1000000000000)∧-100000≤(b.2.getD k (0,0)).2∧(b.2.getD k (0,0)).2≤100000
 asc:∀ k,0 < k→k < b.2.length→(b.2.getD (k - 1) (0,0)).1 < (b.2.getD k (0,0)).1
theorem v_cb_ok {b:Int×List (Int×Int)} (h:(v_cb b).2 = 0):v_bok b := by
 unfold v_cb at h
 cases c1:s_Z2 b.1 (-100000) 100000 <;> rw [c1] at h
 ·cases h
 cases c2:decide ((b.2.length:Int) < 2) <;> rw [c2] at h
 rotate_left
 ·cases h
 cases c3:decide ((b.2.length:Int) > 20) <;> rw [c3] at h
 rotate_left
 ·cases h
 have h2 := of_decide_eq_false c2
 have h3 := of_decide_eq_false c3
 simp only [cond_false,cond_true] at h
 have key := v_scan_end (f := v_cb1 b.2) (e := ((0,0):Int×Int)) (P := fun (r:gG) => r.2 = 0) b.2 0 h (fun j x v _ hv hv0 => by
  unfold v_cb1 at hv
  cases c1:v_pval x <;> rw [c1] at hv
  ·simp only [cond_false,sJ] at hv; subst hv; cases hv0
  ·cases c2:cond (j == 0) true (decide (x.1 > (b.2.getD (j - 1).toNat (0,0)).1)) <;> rw [c2] at hv
   ·simp only [cond_true,cond_false,sJ] at hv; subst hv; cases hv0
   ·cases hv)
 have key2:∀ k,(hk:k < b.2.length)→v_pval (b.2.getD k (0,0))=true∧(0 < k→(b.2.getD (k - 1) (0,0)).1 < (b.2.getD k (0,0)).1) := fun k hk => by
  have := key k hk
  rw [Int.zero_add,← gd_get (0,0) hk] at this
  unfold v_cb1 at this
  cases c:v_pval (b.2.getD k (0,0)) <;> rw [c] at this
  ·cases this
  ·refine ⟨rfl,fun h0 => ?_⟩
   rw [show ((k:Int) == 0)=false from beq_eq_false_iff_ne.2 (by omega),show ((k:Int) - 1).toNat = k - 1 by omega] at this
   cases d:decide ((b.2.getD k (0,0)).1 > (b.2.getD (k - 1) (0,0)).1) <;> rw [d] at this
   ·cases this
   ·exact of_decide_eq_true d
 exact ⟨tx_within.1 c1,by omega,by omega,fun k hk => v_pval_t (key2 k hk).1,fun k h0 hk => (key2 k hk).2 h0⟩
structure v_rlok (r:gG):Prop where
 l:0≤r.1∧r.1≤200000
 w:1≤r.2∧r.2≤1000000000000
abbrev con_Z3:Con := ⟨P_Z3,R_Z3,fun x => qre_Z3 x,fun x => t_Z3 x⟩
theorem ok_Z3:ConOk Try.prog 107 con_Z3 := okG k_Z3 e_Z3 hC_Z3 fun x hx => tf_of (w_Z3_eq x _) (d_Z3 x _ (pp_Z3 x hx) (tt_Z3 x hx))
def C_Ze:Cons := []
theorem hC_Ze:ConsOk Try.prog C_Ze := ConsOk.nil
def w_Ze (p0:Int) (K:Bool→Prop):Prop := (K (p0 != p0))
theorem w_Ze_eq (p0:Int) (K:Bool→Prop):tfn F_Ze A_Ze C_Ze P_Ze R_Ze p0 K = w_Ze p0 K := by kernel_rfl
def s_Ze (p0:Int):Bool := (p0 != p0)
abbrev pre_Ze (_p0:Int):List Prop := []
theorem d_Ze (p0:Int) (K:Bool→Prop) (_hp:∀ p∈pre_Ze p0,p) (h:K (s_Ze p0)):w_Ze p0 K := by
 unfold w_Ze
 unfold s_Ze at h
 exact h
abbrev con_Ze:Con := ⟨P_Ze,R_Ze,fun x => pre_Ze x,fun x => s_Ze x⟩
theorem ok_Ze:ConOk Try.prog 126 con_Ze := okG k_Ze e_Ze hC_Ze fun x hx => tf_of (w_Ze_eq x _) (d_Ze x _ hx rfl)
def C_Zf:Cons := [(126,[],con_Ze)]
theorem hC_Zf:ConsOk Try.prog C_Zf := cC ok_Ze <| ConsOk.nil
def w_Zf (p0:Int) (p1:Int) (K:Int→Prop):Prop := ((((s_Ze p0)=true) →((((s_Ze p1)=true) →(K zz0)) ∧(((s_Ze p1)=false) →(K (-1:Int))))) ∧(((s_Ze p0)=false) →((((s_Ze p1)=true) →(K zz1)) ∧(((s_Ze p1)=false) →((((decide (p0 < p1))=true) →(K (-1:Int))) ∧(((decide (p0 < p1))=false) →((((decide (p0 > p1))=true) →(K zz1)) ∧(((decide (p0 > p1))=false) →(K zz0)))))))))
theorem w_Zf_eq (p0:Int) (p1:Int) (K:Int→Prop):tfn F_Zf A_Zf C_Zf P_Zf R_Zf (p0,p1) K = w_Zf p0 p1 K := by kernel_rfl
def s_Zf (p0:Int) (p1:Int):Int := (cond (s_Ze p0) (cond (s_Ze p1) (0:Int) (-1:Int)) (cond (s_Ze p1) (1:Int) (cond (decide (p0 < p1)) (-1:Int) (cond (decide (p0 > p1)) (1:Int) (0:Int)))))
abbrev pre_Zf (_p0:Int) (_p1:Int):List Prop := []
theorem d_Zf (p0:Int) (p1:Int) (K:Int→Prop) (_hp:∀ p∈pre_Zf p0 p1,p) (h:K (s_Zf p0 p1)):w_Zf p0 p1 K := by
 unfold w_Zf
 unfold s_Zf at h
 exact (br' h (fun e0 h => (br' h (fun e1 h => h)
  (fun e1 h => h)))
  (fun e0 h => (br' h (fun e2 h => h)
  (fun e2 h => (br' h (fun e3 h => h)
  (fun e3 h => (br' h (fun e4 h => h)
  (fun e4 h => h))))))))
abbrev con_Zf:Con := ⟨P_Zf,R_Zf,fun x => pre_Zf x.1 x.2,fun x => s_Zf x.1 x.2⟩
theorem ok_Zf:ConOk Try.prog 110 con_Zf := okG k_Zf e_Zf hC_Zf fun x hx => tf_of (w_Zf_eq x.1 x.2 _) (d_Zf x.1 x.2 _ hx rfl)
def C_Zd:Cons := [(110,[],con_Zf)]
theorem hC_Zd:ConsOk Try.prog C_Zd := cC ok_Zf <| ConsOk.nil
def w_Zd (p0:gG) (p1:Int) (K:Int→Prop):Prop := (K (s_Zf p0.1 p1))
theorem w_Zd_eq (p0:gG) (p1:Int) (K:Int→Prop):tfn F_Zd A_Zd C_Zd P_Zd R_Zd (p0,p1) K = w_Zd p0 p1 K := by kernel_rfl
def s_Zd (p0:gG) (p1:Int):Int := (s_Zf p0.1 p1)
abbrev pre_Zd (_p0:gG) (_p1:Int):List Prop := []
theorem d_Zd (p0:gG) (p1:Int) (K:Int→Prop) (_hp:∀ p∈pre_Zd p0 p1,p) (h:K (s_Zd p0 p1)):w_Zd p0 p1 K := by
 unfold w_Zd
 unfold s_Zd at h
 exact h
abbrev con_Zd:Con := ⟨P_Zd,R_Zd,fun x => pre_Zd x.1 x.2,fun x => s_Zd x.1 x.2⟩
theorem ok_Zd:ConOk Try.prog 109 con_Zd := okG k_Zd e_Zd hC_Zd fun x hx => tf_of (w_Zd_eq x.1 x.2 _) (d_Zd x.1 x.2 _ hx rfl)
def C_Z0:Cons := [(109,[],con_Zd)]
theorem hC_Z0:ConsOk Try.prog C_Z0 := cC ok_Zd <| ConsOk.nil
abbrev q0_Z0 (p0:gC) (y1:gG) := ((decide (y1.2 < (p0.length:Int)))=(decide (y1.2 < (p0.length:Int))))
abbrev q1_Z0 (p0:gC) (y1:gG) := (q0_Z0 p0 y1)
abbrev q2_Z0 (p0:gC) (y1:gG) := (q1_Z0 p0 y1)
abbrev q3_Z0 (p0:gC) (y1:gG) := (q2_Z0 p0 y1)
abbrev q4_Z0 (p0:gC) (y1:gG) := (q3_Z0 p0 y1)
abbrev q5_Z0 (p0:gC) (y1:gG) := (q4_Z0 p0 y1)
abbrev q6_Z0 (p0:gC) (y1:gG) := (q5_Z0 p0 y1)
abbrev q7_Z0 (p0:gC) (y1:gG) := (q6_Z0 p0 y1)
abbrev q8_Z0 (p0:gC) (y1:gG) := (q7_Z0 p0 y1)
abbrev q9_Z0 (p0:gC) (y1:gG) := (q8_Z0 p0 y1)
abbrev q10_Z0 (p0:gC) (y1:gG) := (q9_Z0 p0 y1)
abbrev q11_Z0 (p0:gC) (y1:gG) := (q10_Z0 p0 y1)
abbrev q12_Z0 (p0:gC) (y1:gG) := (q11_Z0 p0 y1)
abbrev q13_Z0 (p0:gC) (y1:gG) := (q12_Z0 p0 y1)
abbrev q14_Z0 (p0:gC) (y1:gG) := (q13_Z0 p0 y1)
abbrev q15_Z0 (p0:gC) (y1:gG) := (q14_Z0 p0 y1)
abbrev q16_Z0 (p0:gC) (y1:gG) := (q15_Z0 p0 y1)
abbrev q17_Z0 (p0:gC) (y1:gG) := (q16_Z0 p0 y1)
abbrev q18_Z0 (p0:gC) (y1:gG) := (q17_Z0 p0 y1)
abbrev q19_Z0 (p0:gC) (y1:gG) := (q18_Z0 p0 y1)
abbrev q20_Z0 (p0:gC) (y1:gG) := (q19_Z0 p0 y1)
abbrev q21_Z0 (p0:gC) (y1:gG) := (q20_Z0 p0 y1)
abbrev q22_Z0 (p0:gC) (y1:gG) := (q21_Z0 p0 y1)
abbrev q23_Z0 (p0:gC) (y1:gG) := (q22_Z0 p0 y1)
abbrev q24_Z0 (p0:gC) (y1:gG) := (q23_Z0 p0 y1)
abbrev q25_Z0 (p0:gC) (y1:gG) := (q24_Z0 p0 y1)
abbrev q26_Z0 (p0:gC) (y1:gG) := (q25_Z0 p0 y1)
abbrev q27_Z0 (p0:gC) (y1:gG) := (q26_Z0 p0 y1)
abbrev q28_Z0 (p0:gC) (y1:gG) := (q27_Z0 p0 y1)
abbrev q29_Z0 (p0:gC) (y1:gG) := (q28_Z0 p0 y1)
abbrev q30_Z0 (p0:gC) (y1:gG) := (q29_Z0 p0 y1)
abbrev q31_Z0 (p0:gC) (y1:gG) := (q30_Z0 p0 y1)
abbrev q32_Z0 (p0:gC) (y1:gG) := (q31_Z0 p0 y1)
abbrev q33_Z0 (p0:gC) (y1:gG) := (q32_Z0 p0 y1)
abbrev q34_Z0 (p0:gC) (y1:gG) := (q33_Z0 p0 y1)
abbrev q35_Z0 (p0:gC) (y1:gG) := (q34_Z0 p0 y1)
abbrev q36_Z0 (p0:gC) (y1:gG) := (q35_Z0 p0 y1)
abbrev q37_Z0 (p0:gC) (y1:gG) := (q36_Z0 p0 y1)
abbrev q38_Z0 (p0:gC) (y1:gG) := (q37_Z0 p0 y1)
abbrev q39_Z0 (p0:gC) (y1:gG) := (q38_Z0 p0 y1)
abbrev q40_Z0 (p0:gC) (y1:gG) := (q39_Z0 p0 y1)
abbrev q41_Z0 (p0:gC) (y1:gG) := (q40_Z0 p0 y1)
abbrev q42_Z0 (p0:gC) (y1:gG) := (q41_Z0 p0 y1)
abbrev q43_Z0 (p0:gC) (y1:gG) := (q42_Z0 p0 y1)
abbrev q44_Z0 (p0:gC) (y1:gG) := (q43_Z0 p0 y1)
abbrev q45_Z0 (p0:gC) (y1:gG) := (q44_Z0 p0 y1)
abbrev q46_Z0 (p0:gC) (y1:gG) := (q45_Z0 p0 y1)
abbrev q47_Z0 (p0:gC) (y1:gG) := (q46_Z0 p0 y1)
abbrev q48_Z0 (p0:gC) (y1:gG) := (q47_Z0 p0 y1)
abbrev q49_Z0 (p0:gC) (y1:gG) := (q48_Z0 p0 y1)
abbrev q50_Z0 (p0:gC) (y1:gG) := (q49_Z0 p0 y1)
abbrev q51_Z0 (p0:gC) (y1:gG) := (q50_Z0 p0 y1)
abbrev q52_Z0 (p0:gC) (y1:gG) := (q51_Z0 p0 y1)
abbrev q53_Z0 (p0:gC) (y1:gG) := (q52_Z0 p0 y1)
abbrev q54_Z0 (p0:gC) (y1:gG) := (q53_Z0 p0 y1)
abbrev q55_Z0 (p0:gC) (y1:gG) := (q54_Z0 p0 y1)
abbrev q56_Z0 (p0:gC) (y1:gG) := (q55_Z0 p0 y1)
abbrev q57_Z0 (p0:gC) (y1:gG) := (q56_Z0 p0 y1)
abbrev q58_Z0 (p0:gC) (y1:gG) := (q57_Z0 p0 y1)
abbrev q59_Z0 (p0:gC) (y1:gG) := (q58_Z0 p0 y1)
abbrev q60_Z0 (p0:gC) (y1:gG) := (q59_Z0 p0 y1)
abbrev q61_Z0 (p0:gC) (y1:gG) := (q60_Z0 p0 y1)
abbrev q62_Z0 (p0:gC) (y1:gG) := (q61_Z0 p0 y1)
abbrev q63_Z0 (p0:gC) (y1:gG) := (q62_Z0 p0 y1)
abbrev q64_Z0 (p0:gC) (y1:gG) := (q63_Z0 p0 y1)
abbrev q65_Z0 (p0:gC) (y1:gG) := (q64_Z0 p0 y1)
abbrev q66_Z0 (p0:gC) (y1:gG) := (q65_Z0 p0 y1)
abbrev q67_Z0 (p0:gC) (y1:gG) := (q66_Z0 p0 y1)
abbrev q68_Z0 (p0:gC) (y1:gG) := (q67_Z0 p0 y1)
abbrev q69_Z0 (p0:gC) (y1:gG) := (q68_Z0 p0 y1)
abbrev q70_Z0 (p0:gC) (y1:gG) := (q69_Z0 p0 y1)
abbrev q71_Z0 (p0:gC) (y1:gG) := (q70_Z0 p0 y1)
abbrev q72_Z0 (p0:gC) (y1:gG) := (q71_Z0 p0 y1)
abbrev q73_Z0 (p0:gC) (y1:gG) := (q72_Z0 p0 y1)
abbrev q74_Z0 (p0:gC) (y1:gG) := (q73_Z0 p0 y1)
abbrev q75_Z0 (p0:gC) (y1:gG) := (q74_Z0 p0 y1)
abbrev q76_Z0 (p0:gC) (y1:gG) := (q75_Z0 p0 y1)
abbrev q77_Z0 (p0:gC) (y1:gG) := (q76_Z0 p0 y1)
abbrev q78_Z0 (p0:gC) (y1:gG) := (q77_Z0 p0 y1)
abbrev q79_Z0 (p0:gC) (y1:gG) := (q78_Z0 p0 y1)
abbrev q80_Z0 (p0:gC) (y1:gG) := (q79_Z0 p0 y1)
abbrev q81_Z0 (p0:gC) (y1:gG) := (q80_Z0 p0 y1)
abbrev q82_Z0 (p0:gC) (y1:gG) := (q81_Z0 p0 y1)
abbrev q83_Z0 (p0:gC) (y1:gG) := (q82_Z0 p0 y1)
abbrev q84_Z0 (p0:gC) (y1:gG) := (q83_Z0 p0 y1)
abbrev q85_Z0 (p0:gC) (y1:gG) := (q84_Z0 p0 y1)
abbrev q86_Z0 (p0:gC) (y1:gG) := (q85_Z0 p0 y1)
abbrev q87_Z0 (p0:gC) (y1:gG) := (q86_Z0 p0 y1)
abbrev q88_Z0 (p0:gC) (y1:gG) := (q87_Z0 p0 y1)
abbrev q89_Z0 (p0:gC) (y1:gG) := (q88_Z0 p0 y1)
abbrev q90_Z0 (p0:gC) (y1:gG) := (q89_Z0 p0 y1)
abbrev q91_Z0 (p0:gC) (y1:gG) := (q90_Z0 p0 y1)
abbrev q92_Z0 (p0:gC) (y1:gG) := (q91_Z0 p0 y1)
abbrev q93_Z0 (p0:gC) (y1:gG) := (q92_Z0 p0 y1)
abbrev q94_Z0 (p0:gC) (y1:gG) := (q93_Z0 p0 y1)
abbrev q95_Z0 (p0:gC) (y1:gG) := (q94_Z0 p0 y1)
abbrev q96_Z0 (p0:gC) (y1:gG) := (q95_Z0 p0 y1)
abbrev q97_Z0 (p0:gC) (y1:gG) := (q96_Z0 p0 y1)
abbrev q98_Z0 (p0:gC) (y1:gG) := (q97_Z0 p0 y1)
abbrev q99_Z0 (p0:gC) (y1:gG) := (q98_Z0 p0 y1)
abbrev q100_Z0 (p0:gC) (y1:gG) := (q99_Z0 p0 y1)
abbrev q101_Z0 (p0:gC) (y1:gG) := (q100_Z0 p0 y1)
abbrev q102_Z0 (p0:gC) (y1:gG) := (q101_Z0 p0 y1)
abbrev q103_Z0 (p0:gC) (y1:gG) := (q102_Z0 p0 y1)
abbrev q104_Z0 (p0:gC) (y1:gG) := (q103_Z0 p0 y1)
abbrev q105_Z0 (p0:gC) (y1:gG) := (q104_Z0 p0 y1)
abbrev q106_Z0 (p0:gC) (y1:gG) := (q105_Z0 p0 y1)
abbrev q107_Z0 (p0:gC) (y1:gG) := (q106_Z0 p0 y1)
abbrev q108_Z0 (p0:gC) (y1:gG) := (q107_Z0 p0 y1)
abbrev q109_Z0 (p0:gC) (y1:gG) := (q108_Z0 p0 y1)
abbrev q110_Z0 (p0:gC) (y1:gG) := (q109_Z0 p0 y1)
abbrev q111_Z0 (p0:gC) (y1:gG) := (q110_Z0 p0 y1)
abbrev q112_Z0 (p0:gC) (y1:gG) := (q111_Z0 p0 y1)
abbrev q113_Z0 (p0:gC) (y1:gG) := (q112_Z0 p0 y1)
abbrev q114_Z0 (p0:gC) (y1:gG) := (q113_Z0 p0 y1)
abbrev q115_Z0 (p0:gC) (y1:gG) := (q114_Z0 p0 y1)
abbrev q116_Z0 (p0:gC) (y1:gG) := (q115_Z0 p0 y1)
abbrev q117_Z0 (p0:gC) (y1:gG) := (q116_Z0 p0 y1)
abbrev q118_Z0 (p0:gC) (y1:gG) := (q117_Z0 p0 y1)
abbrev q119_Z0 (p0:gC) (y1:gG) := (q118_Z0 p0 y1)
def w_Z0 (p0:gC) (p1:Int) (_p2:PUnit) (K:(Int×Bool)→Prop):Prop := (∃ n0,(loopP (fun (y1:gG) k2 => ((((decide (y1.2 < y1.1))=true) →((zz0≤(wi (v_shr .u64 (IntKind.wrap .u64 (wi (y1.2 + y1.1))) zz1))) ∧(((wi (v_shr .u64 (IntKind.wrap .u64 (wi (y1.2 + y1.1))) zz1)) < (p0.length:Int)) ∧((((decide ((s_Zd (p0.getD (Int.toNat (wi (v_shr .u64 (IntKind.wrap .u64 (wi (y1.2 + y1.1))) zz1))) (zz0,zz0)) p1) < zz0))=true) →(k2 (y1.1,(wi ((wi (v_shr .u64 (IntKind.wrap .u64 (wi (y1.2 + y1.1))) zz1)) + zz1))))) ∧(((decide ((s_Zd (p0.getD (Int.toNat (wi (v_shr .u64 (IntKind.wrap .u64 (wi (y1.2 + y1.1))) zz1))) (zz0,zz0)) p1) < zz0))=false) →(k2 ((wi (v_shr .u64 (IntKind.wrap .u64 (wi (y1.2 + y1.1))) zz1)),y1.2))))))) ∧(((decide (y1.2 < y1.1))=false) →((((decide (y1.2 < (p0.length:Int)))=true) →(q119_Z0 p0 y1)) ∧((((decide (y1.2 < (p0.length:Int)))=true) →(q119_Z0 p0 y1)) ∧((((decide (y1.2 < (p0.length:Int)))=true) →(zz0≤y1.2)) ∧((((decide (y1.2 < (p0.length:Int)))=true) →(y1.2 < (p0.length:Int))) ∧((((decide (y1.2 < (p0.length:Int)))=true) →(q119_Z0 p0 y1)) ∧((((decide (y1.2 < (p0.length:Int)))=true) →(q119_Z0 p0 y1)) ∧((((decide (y1.2 < (p0.length:Int)))=true) →(q119_Z0 p0 y1)) ∧((((decide (y1.2 < (p0.length:Int)))=true) →(q119_Z0 p0 y1)) ∧((((decide (y1.2 < (p0.length:Int)))=true) →(q119_Z0 p0 y1)) ∧((q119_Z0 p0 y1) ∧(K (y1.2,(cond (decide (y1.2 < (p0.length:Int))) ((s_Zd (p0.getD y1.2.toNat (zz0,zz0)) p1) == zz0) false)))))))))))))))) n0 ((p0.length:Int),zz0)))
theorem w_Z0_eq (p0:gC) (p1:Int) (p2:PUnit) (K:(Int×Bool)→Prop):tfn F_Z0 A_Z0 C_Z0 P_Z0 R_Z0 (p0,p1,p2) K = w_Z0 p0 p1 p2 K := by kernel_rfl
def st_Z0_0 (p0:gC) (p1:Int) (_p2:PUnit) (y0:gG):(Int×Int) ⊕ (Int×Bool) := (cond (decide (y0.2 < y0.1)) (cond (decide ((s_Zd (p0.getD (Int.toNat (IntKind.i64.wrap (v_shr .u64 (IntKind.wrap .u64 (IntKind.i64.wrap (y0.2 + y0.1))) (1:Int)))) (0,0)) p1) < 0)) (Sum.inl (y0.1,(IntKind.i64.wrap ((IntKind.i64.wrap (v_shr .u64 (IntKind.wrap .u64 (IntKind.i64.wrap (y0.2 + y0.1))) (1:Int))) + 1)))) (Sum.inl ((IntKind.i64.wrap (v_shr .u64 (IntKind.wrap .u64 (IntKind.i64.wrap (y0.2 + y0.1))) (1:Int))),y0.2))) (Sum.inr (y0.2,(cond (decide (y0.2 < (p0.length:Int))) ((s_Zd (p0.getD y0.2.toNat (0,0)) p1) == 0) false))))
abbrev sp_Z0_0 (p0:gC) (_p1:Int) (_p2:PUnit) (y0:gG):List Prop := [(((decide (y0.2 < y0.1))=true)→((0:Int)≤(IntKind.i64.wrap (v_shr .u64 (IntKind.wrap .u64 (IntKind.i64.wrap (y0.2 + y0.1))) (1:Int))))),(((decide (y0.2 < y0.1))=true)→((IntKind.i64.wrap (v_shr .u64 (IntKind.wrap .u64 (IntKind.i64.wrap (y0.2 + y0.1))) (1:Int))) < (p0.length:Int))),(((decide (y0.2 < y0.1))=false)→(((decide (y0.2 < (p0.length:Int)))=true)→((0:Int)≤y0.2))),(((decide (y0.2 < y0.1))=false)→(((decide (y0.2 < (p0.length:Int)))=true)→(y0.2 < (p0.length:Int))))]
def s_Z0 (p0:gC) (p1:Int) (p2:PUnit):(Int×Bool) := (lpv ((0:Int),false) (st_Z0_0 p0 p1 p2) ((p0.length:Int),(0:Int)))
abbrev pre_Z0 (p0:gC) (p1:Int) (p2:PUnit):List Prop := [(OkL (st_Z0_0 p0 p1 p2) (sp_Z0_0 p0 p1 p2) ((p0.length:Int),(0:Int)))]
theorem d_Z0 (p0:gC) (p1:Int) (p2:PUnit) (K:(Int×Bool)→Prop) (hp:∀ p∈pre_Z0 p0 p1 p2,p) (h:K (s_Z0 p0 p1 p2)):w_Z0 p0 p1 p2 K := by
 unfold w_Z0
 unfold s_Z0 at h
 obtain ⟨hp0,_⟩ := conj_of hp
 exact (loop_gen (hp0) h (fun y0 k0 hp h => by
 unfold st_Z0_0 at h; obtain ⟨hp0,hp1,hp2,hp3,_⟩ := conj_of hp
 exact (br' h (fun e1 h => ⟨(hp0 e1),(hp1 e1),(br' h (fun e2 h => h)
  (fun e2 h => h))⟩)
  (fun e1 h => ⟨rf,rf,(hp2 e1),(hp3 e1),rf,rf,rf,rf,rf,rfl,h⟩))))
/-- How many points lie ahead of a tick. -/
def v_pos (t:Int):List (Int×Int)→Nat
 | [] => 0
 | x :: r => cond (decide (x.1 < t)) (v_pos t r + 1) 0
theorem v_pos_le (t:Int):∀ l,v_pos t l≤l.length
 | [] => Nat.le_refl _
 | x :: r => by
  have := v_pos_le t r
  unfold v_pos
  cases decide (x.1 < t)
  ·rw [cond_false,List.length_cons]; omega
  ·rw [cond_true,List.length_cons]; omega
theorem v_pos_lt {t:Int}:∀ {l:List (Int×Int)} {k:Nat},k < v_pos t l→(l.getD k (0,0)).1 < t
 | [],k,h => by unfold v_pos at h; omega
 | x :: r,k,h => by
  unfold v_pos at h
  cases c:decide (x.1 < t) <;> rw [c] at h
  ·rw [cond_false] at h; omega
  ·rw [cond_true] at h
   match k with
   | 0 => exact of_decide_eq_true c
   | k + 1 => exact v_pos_lt (l := r) (k := k) (by omega)
theorem v_pos_at {t:Int}:∀ {l:List (Int×Int)},v_pos t l < l.length→t≤(l.getD (v_pos t l) (0,0)).1
 | [],h => by simp at h
 | x :: r,h => by
  unfold v_pos at h ⊢
  cases c:decide (x.1 < t) <;> rw [c] at h
  ·have := of_decide_eq_false c
   rw [cond_false]
   show t≤x.1
   omega
  ·rw [cond_true] at h ⊢
   rw [List.length_cons] at h
   exact v_pos_at (l := r) (by omega)
/-- Points that ascend. -/
structure v_asl (l:gC):Prop where
 len:l.length≤20
 asc:∀ k,0 < k→k < l.length→(l.getD (k - 1) (0,0)).1 < (l.getD k (0,0)).1
theorem v_pos_ge {t:Int} {l:List (Int×Int)} (h:v_asl l):∀ k,v_pos t l≤k→k < l.length→t≤(l.getD k (0,0)).1
 | 0,h1,h2 => by
  have e:v_pos t l = 0 := by omega
  have := v_pos_at (t := t) (l := l) (by omega)
  rw [e] at this; exact this
 | k + 1,h1,h2 => by
  rcases Nat.eq_or_lt_of_le h1 with e | e
  ·rw [← e]; exact v_pos_at (by omega)
  ·have := v_pos_ge (t := t) h k (by omega) (by omega)
   have g := h.asc (k + 1) (by omega) h2
   rw [Nat.add_sub_cancel] at g
   omega
theorem v_scmp (x:gG) (t:Int):s_Zd x t = cond (decide (x.1 < t)) (-1) (cond (decide (x.1 > t)) 1 0) := by
 unfold s_Zd s_Zf
 have h:∀ n,s_Ze n = false := fun n => by unfold s_Ze; simp
 rw [h,h]; rfl
theorem u_half {n:Int} (h1:0≤n) (h2:n≤1000):IntKind.i64.wrap (v_shr .u64 (IntKind.u64.wrap (IntKind.i64.wrap n)) 1)=n / 2 := by
 rw [wrap_id (n := n) (by omega) (by omega),u_wrap h1 (by omega)]
 unfold v_shr
 rw [show (2:Int) ^ (min (Int.toNat 1) (IntKind.bits .u64))=2 from by decide,Int.fdiv_eq_ediv_of_nonneg _ (by decide)]
 exact wrap_id (by omega) (by omega)
theorem l_Z0_0 (p0:gC) (p1:Int) (p2:PUnit) (h:v_asl p0):OkL (st_Z0_0 p0 p1 p2) (sp_Z0_0 p0 p1 p2) ((p0.length:Int),0)∧lpv (0,false) (st_Z0_0 p0 p1 p2) ((p0.length:Int),0)=((v_pos p1 p0:Int),cond (decide ((v_pos p1 p0:Int) < (p0.length:Int))) (s_Zd (p0.getD (v_pos p1 p0) (0,0)) p1 == 0) false) := by
 have hl := h.len
 have hp := v_pos_le p1 p0
 refine loop_is (fun (y:gG) => (0≤y.2∧y.2≤(v_pos p1 p0:Int))∧((v_pos p1 p0:Int)≤y.1∧y.1≤(p0.length:Int))) (fun (y:gG) => (y.1 - y.2).toNat) (fun _ => ((v_pos p1 p0:Int),cond (decide ((v_pos p1 p0:Int) < (p0.length:Int))) (s_Zd (p0.getD (v_pos p1 p0) (0,0)) p1 == 0) false)) ?_ ⟨⟨by omega,by simp only; omega⟩,by simp only; omega⟩ (by unfold fuel; simp only; omega)
 rintro ⟨j,i⟩ ⟨⟨g1,g2⟩,g3,g4⟩
 simp only at g1 g2 g3 g4
 have hw:IntKind.i64.wrap (v_shr .u64 (IntKind.u64.wrap (IntKind.i64.wrap (i + j))) 1)=(i + j) / 2 := u_half (by omega) (by omega)
 simp only [sp_Z0_0,st_Z0_0,fM,hw]
 cases c:decide (i < j)
 ·have hc := of_decide_eq_false c
  obtain rfl:i = (v_pos p1 p0:Int) := by omega
  simp only [cond_false,Int.toNat_natCast,and_true]
  exact ⟨fun e => (by cases e),fun e => (by cases e),fun _ _ => (by omega),fun _ e => of_decide_eq_true e,fun p hp => by cases hp⟩
 ·have hc := of_decide_eq_true c
  obtain ⟨k,hk⟩ : ∃ k:Nat,(i + j) / 2 = (k:Int) := ⟨((i + j) / 2).toNat,by omega⟩
  have hk1:k < p0.length := by omega
  have hw2:IntKind.i64.wrap ((k:Int) + 1)=(k:Int) + 1 := wrap_id (by omega) (by omega)
  simp only [cond_true,hk,Int.toNat_natCast,hw2,v_scmp]
  refine ⟨⟨fun _ => (by omega),fun _ => (by omega),fun e => (by cases e),fun e => (by cases e),fun p hp => by cases hp⟩,?_⟩
  cases d:decide ((p0.getD k (0,0)).1 < p1)
  ·have hd := of_decide_eq_false d
   have:v_pos p1 p0≤k := by
    rcases Nat.lt_or_ge k (v_pos p1 p0) with g | g
    ·exact (hd (v_pos_lt g)).elim
    ·exact g
   have e:decide (cond false (-1) (cond (decide ((p0.getD k (0,0)).1 > p1)) 1 (0:Int)) < 0)=false := by cases decide ((p0.getD k (0,0)).1 > p1) <;> rfl
   rw [e]
   simp only [cond_false,and_true]
   omega
  ·have hd := of_decide_eq_true d
   have:k < v_pos p1 p0 := by
    rcases Nat.lt_or_ge k (v_pos p1 p0) with g | g
    ·exact g
    ·have := v_pos_ge h k g hk1
     omega
   rw [show decide (cond true (-1) (cond (decide ((p0.getD k (0,0)).1 > p1)) 1 (0:Int)) < 0)=true from rfl]
   simp only [cond_true,and_true]
   omega
abbrev t_Z0 (p0:gC) (p1:Int) (_p2:PUnit):Int×Bool := ((v_pos p1 p0:Int),cond (decide ((v_pos p1 p0:Int) < (p0.length:Int))) (s_Zd (p0.getD (v_pos p1 p0) (0,0)) p1 == 0) false)
abbrev qre_Z0 (p0:gC) (_p1:Int) (_p2:PUnit):List Prop := [v_asl p0]
theorem pp_Z0 (p0:gC) (p1:Int) (p2:PUnit) (hq:∀ p∈qre_Z0 p0 p1 p2,p):∀ p∈pre_Z0 p0 p1 p2,p := by
 simp only [pre_Z0,fM]
 exact ⟨(l_Z0_0 p0 p1 p2 (conj_of hq).1).1,by simp⟩
theorem tt_Z0 (p0:gC) (p1:Int) (p2:PUnit) (hq:∀ p∈qre_Z0 p0 p1 p2,p):s_Z0 p0 p1 p2 = t_Z0 p0 p1 p2 := by
 exact (l_Z0_0 p0 p1 p2 (conj_of hq).1).2

abbrev con_Z0:Con := ⟨P_Z0,R_Z0,fun x => qre_Z0 x.1 x.2.1 x.2.2,fun x => t_Z0 x.1 x.2.1 x.2.2⟩
theorem ok_Z0:ConOk Try.prog 108 con_Z0 := okG k_Z0 e_Z0 hC_Z0 fun x hx => tf_of (w_Z0_eq x.1 x.2.1 x.2.2 _) (d_Z0 x.1 x.2.1 x.2.2 _ (pp_Z0 x.1 x.2.1 x.2.2 hx) (tt_Z0 x.1 x.2.1 x.2.2 hx))
def C_Za:Cons := [(108,[109],con_Z0)]
theorem hC_Za:ConsOk Try.prog C_Za := cC ok_Z0 <| ConsOk.nil
def w_Za (p0:(Int×(List (Int×Int)))) (p1:Int) (K:(Int×Int)→Prop):Prop := ((v_asl p0.2) ∧((zz0≤(max zz0 (IntKind.i64.wrap ((((v_pos p1 p0.2):Nat):Int) - 1)))) ∧(((max zz0 (IntKind.i64.wrap ((((v_pos p1 p0.2):Nat):Int) - 1))) < (p0.2.length:Int)) ∧((zz0≤(max zz1 (((v_pos p1 p0.2):Nat):Int))) ∧(((max zz1 (((v_pos p1 p0.2):Nat):Int)) < (p0.2.length:Int)) ∧(K ((IntKind.i64.wrap ((IntKind.i64.wrap ((IntKind.i64.wrap ((p0.2.getD (Int.toNat (max zz0 (IntKind.i64.wrap ((((v_pos p1 p0.2):Nat):Int) - 1)))) (zz0,zz0)).2 - p0.1)) * (IntKind.i64.wrap ((p0.2.getD (Int.toNat (max zz1 (((v_pos p1 p0.2):Nat):Int))) (zz0,zz0)).1 - (p0.2.getD (Int.toNat (max zz0 (IntKind.i64.wrap ((((v_pos p1 p0.2):Nat):Int) - 1)))) (zz0,zz0)).1)))) + (IntKind.i64.wrap ((IntKind.i64.wrap ((p0.2.getD (Int.toNat (max zz1 (((v_pos p1 p0.2):Nat):Int))) (zz0,zz0)).2 - (p0.2.getD (Int.toNat (max zz0 (IntKind.i64.wrap ((((v_pos p1 p0.2):Nat):Int) - 1)))) (zz0,zz0)).2)) * (IntKind.i64.wrap (p1 - (p0.2.getD (Int.toNat (max zz0 (IntKind.i64.wrap ((((v_pos p1 p0.2):Nat):Int) - 1)))) (zz0,zz0)).1)))))),(IntKind.i64.wrap ((p0.2.getD (Int.toNat (max zz1 (((v_pos p1 p0.2):Nat):Int))) (zz0,zz0)).1 - (p0.2.getD (Int.toNat (max zz0 (IntKind.i64.wrap ((((v_pos p1 p0.2):Nat):Int) - 1)))) (zz0,zz0)).1)))))))))
theorem w_Za_eq (p0:(Int×(List (Int×Int)))) (p1:Int) (K:(Int×Int)→Prop):tfn F_Za A_Za C_Za P_Za R_Za (p0,p1) K = w_Za p0 p1 K := by kernel_rfl
def s_Za (p0:(Int×(List (Int×Int)))) (p1:Int):(Int×Int) := ((IntKind.i64.wrap ((IntKind.i64.wrap ((IntKind.i64.wrap ((p0.2.getD (Int.toNat (max (0:Int) (IntKind.i64.wrap ((((v_pos p1 p0.2):Nat):Int) - 1)))) (0,0)).2 - p0.1)) * (IntKind.i64.wrap ((p0.2.getD (Int.toNat (max (1:Int) (((v_pos p1 p0.2):Nat):Int))) (0,0)).1 - (p0.2.getD (Int.toNat (max (0:Int) (IntKind.i64.wrap ((((v_pos p1 p0.2):Nat):Int) - 1)))) (0,0)).1)))) + (IntKind.i64.wrap ((IntKind.i64.wrap ((p0.2.getD (Int.toNat (max (1:Int) (((v_pos p1 p0.2):Nat):Int))) (0,0)).2 - (p0.2.getD (Int.toNat (max (0:Int) (IntKind.i64.wrap ((((v_pos p1 p0.2):Nat):Int) - 1)))) (0,0)).2)) * (IntKind.i64.wrap (p1 - (p0.2.getD (Int.toNat (max (0:Int) (IntKind.i64.wrap ((((v_pos p1 p0.2):Nat):Int) - 1)))) (0,0)).1)))))),(IntKind.i64.wrap ((p0.2.getD (Int.toNat (max (1:Int) (((v_pos p1 p0.2):Nat):Int))) (0,0)).1 - (p0.2.getD (Int.toNat (max (0:Int) (IntKind.i64.wrap ((((v_pos p1 p0.2):Nat):Int) - 1)))) (0,0)).1)))
abbrev pre_Za (p0:(Int×(List (Int×Int)))) (p1:Int):List Prop := [(v_asl p0.2),((0:Int)≤(max (0:Int) (IntKind.i64.wrap ((((v_pos p1 p0.2):Nat):Int) - 1)))),((max (0:Int) (IntKind.i64.wrap ((((v_pos p1 p0.2):Nat):Int) - 1))) < (p0.2.length:Int)),((0:Int)≤(max (1:Int) (((v_pos p1 p0.2):Nat):Int))),((max (1:Int) (((v_pos p1 p0.2):Nat):Int)) < (p0.2.length:Int))]
theorem d_Za (p0:(Int×(List (Int×Int)))) (p1:Int) (K:(Int×Int)→Prop) (hp:∀ p∈pre_Za p0 p1,p) (h:K (s_Za p0 p1)):w_Za p0 p1 K := by
 unfold w_Za
 unfold s_Za at h
 obtain ⟨hp0,hp1,hp2,hp3,hp4,_⟩ := conj_of hp
 exact ⟨(hp0),(hp1),(hp2),(hp3),(hp4),h⟩
/-- The daily change at a tick,as a quotient. -/
def v_pi (b:Int×List (Int×Int)) (t:Int):Nat := max 1 (v_pos t b.2)
def v_cd (b:Int×List (Int×Int)) (t:Int):Int := (b.2.getD (v_pi b t) (0,0)).1 - (b.2.getD (v_pi b t - 1) (0,0)).1
def v_cn (b:Int×List (Int×Int)) (t:Int):Int := ((b.2.getD (v_pi b t - 1) (0,0)).2 - b.1) * v_cd b t + ((b.2.getD (v_pi b t) (0,0)).2 - (b.2.getD (v_pi b t - 1) (0,0)).2) * (t - (b.2.getD (v_pi b t - 1) (0,0)).1)
theorem v_bok.asl {b:Int×List (Int×Int)} (h:v_bok b):v_asl b.2 := ⟨h.len,h.asc⟩
theorem v_pi_at {b:Int×List (Int×Int)} {t:Int} (h:v_bok b) (hw:v_iw b t = true):(1≤v_pi b t∧v_pi b t < b.2.length)∧(b.2.getD (v_pi b t - 1) (0,0)).1≤t∧t≤(b.2.getD (v_pi b t) (0,0)).1 := by
 have h2 := h.two
 have hb := tx_within.1 hw
 have hle := v_pos_le t b.2
 have hlt:v_pos t b.2 < b.2.length := by
  rcases Nat.lt_or_ge (v_pos t b.2) b.2.length with g | g
  ·exact g
  ·have := v_pos_lt (t := t) (l := b.2) (k := b.2.length - 1) (by omega)
   omega
 have ha := v_pos_at (t := t) hlt
 unfold v_pi
 refine ⟨by omega,?_,?_⟩
 ·rcases Nat.eq_zero_or_pos (v_pos t b.2) with z | z
  ·rw [z,show max 1 0 - 1 = 0 from rfl]; exact hb.1
  ·have := v_pos_lt (t := t) (l := b.2) (k := v_pos t b.2 - 1) (by omega)
   rw [show max 1 (v_pos t b.2) - 1 = v_pos t b.2 - 1 by omega]; omega
 ·exact v_pos_ge h.asl _ (by omega) (by omega)
/-- What the parts of a change are bounded by. -/
structure v_chb (b:Int×List (Int×Int)) (t:Int):Prop where
 i:1≤v_pi b t∧v_pi b t < b.2.length
 w:(b.2.getD (v_pi b t - 1) (0,0)).1≤t∧t≤(b.2.getD (v_pi b t) (0,0)).1
 d:0 < v_cd b t∧v_cd b t≤1000000000000
 n : -400000000000000000≤v_cn b t∧v_cn b t≤400000000000000000
 a : -200000000000000000≤((b.2.getD (v_pi b t - 1) (0,0)).2 - b.1) * v_cd b t∧((b.2.getD (v_pi b t - 1) (0,0)).2 - b.1) * v_cd b t≤200000000000000000
 m : -200000000000000000≤((b.2.getD (v_pi b t) (0,0)).2 - (b.2.getD (v_pi b t - 1) (0,0)).2) * (t - (b.2.getD (v_pi b t - 1) (0,0)).1)∧((b.2.getD (v_pi b t) (0,0)).2 - (b.2.getD (v_pi b t - 1) (0,0)).2) * (t - (b.2.getD (v_pi b t - 1) (0,0)).1)≤200000000000000000
theorem v_chb_of {b:Int×List (Int×Int)} {t:Int} (h:v_bok b) (hw:v_iw b t = true):v_chb b t := by
 obtain ⟨i,w⟩ := v_pi_at h hw
 have o1 := h.ok _ i.2
 have o2 := h.ok (v_pi b t - 1) (by omega)
 have ha := h.asc _ i.1 i.2
 have hd := h.d
 have d:0 < v_cd b t∧v_cd b t≤1000000000000 := by unfold v_cd; omega
 have a := mul_abs (x := (b.2.getD (v_pi b t - 1) (0,0)).2 - b.1) (y := v_cd b t) (a := 200000) (b := 1000000000000) (by omega) (by omega) (by omega) (by omega)
 have m := mul_abs (x := (b.2.getD (v_pi b t) (0,0)).2 - (b.2.getD (v_pi b t - 1) (0,0)).2) (y := t - (b.2.getD (v_pi b t - 1) (0,0)).1) (a := 200000) (b := 1000000000000) (by omega) (by omega) (by omega) (by omega)
 refine ⟨i,w,d,?_,by omega,by omega⟩
 unfold v_cn
 omega
abbrev t_Za (p0:Int×List (Int×Int)) (p1:Int):Int×Int := (v_cn p0 p1,v_cd p0 p1)
abbrev qre_Za (p0:Int×List (Int×Int)) (p1:Int):List Prop := [v_bok p0,v_iw p0 p1 = true]
theorem pp_Za (p0:Int×List (Int×Int)) (p1:Int) (hq:∀ p∈qre_Za p0 p1,p):∀ p∈pre_Za p0 p1,p := by
 obtain ⟨h1,h2,_⟩ := conj_of hq
 have c := v_chb_of h1 h2
 have ci := c.i
 have hl := h1.len
 have hp := v_pos_le p1 p0.2
 have w1:IntKind.i64.wrap ((v_pos p1 p0.2:Int) - 1)=(v_pos p1 p0.2:Int) - 1 := wrap_id (by omega) (by omega)
 simp only [pre_Za,fM,w1]
 unfold v_pi at ci
 exact ⟨h1.asl,by omega,by omega,by omega,by omega,by simp⟩
theorem tt_Za (p0:Int×List (Int×Int)) (p1:Int) (hq:∀ p∈qre_Za p0 p1,p):s_Za p0 p1 = t_Za p0 p1 := by
 obtain ⟨h1,h2,_⟩ := conj_of hq
 have c := v_chb_of h1 h2
 have ci := c.i
 have hl := h1.len
 have hp := v_pos_le p1 p0.2
 have w1:IntKind.i64.wrap ((v_pos p1 p0.2:Int) - 1)=(v_pos p1 p0.2:Int) - 1 := wrap_id (by omega) (by omega)
 have n1:(max 0 ((v_pos p1 p0.2:Int) - 1)).toNat = v_pi p0 p1 - 1 := by unfold v_pi; omega
 have n2:(max 1 (v_pos p1 p0.2:Int)).toNat = v_pi p0 p1 := by unfold v_pi; omega
 have o1 := h1.ok _ ci.2
 have o2 := h1.ok (v_pi p0 p1 - 1) (by omega)
 have hd := h1.d
 have cw := c.w
 have cd := c.d
 have ca := c.a
 have cm := c.m
 have cn := c.n
 unfold s_Za t_Za
 simp only [w1,n1,n2]
 unfold v_cn at cn ⊢
 unfold v_cd at *
 rw [wrap_id (n := (p0.2.getD (v_pi p0 p1 - 1) (0,0)).2 - p0.1) (by omega) (by omega),wrap_id (n := (p0.2.getD (v_pi p0 p1) (0,0)).1 - (p0.2.getD (v_pi p0 p1 - 1) (0,0)).1) (by omega) (by omega),wrap_id (n := (p0.2.getD (v_pi p0 p1) (0,0)).2 - (p0.2.getD (v_pi p0 p1 - 1) (0,0)).2) (by omega) (by omega),wrap_id (n := p1 - (p0.2.getD (v_pi p0 p1 - 1) (0,0)).1) (by omega) (by omega),wrap_id (n := _ * _) (by omega) (by omega),wrap_id (n := _ * _) (by omega) (by omega),wrap_id (by omega) (by omega)]

abbrev con_Za:Con := ⟨P_Za,R_Za,fun x => qre_Za x.1 x.2,fun x => t_Za x.1 x.2⟩
theorem ok_Za:ConOk Try.prog 69 con_Za := okG k_Za e_Za hC_Za fun x hx => tf_of (w_Za_eq x.1 x.2 _) (d_Za x.1 x.2 _ (pp_Za x.1 x.2 hx) (tt_Za x.1 x.2 hx))
def C_Zg:Cons := [(107,[],con_Z3)]
theorem hC_Zg:ConsOk Try.prog C_Zg := cC ok_Z3 <| ConsOk.nil
def w_Zg (p0:(Int×(List (Int×Int)))) (K:((Int×(List (Int×Int)))×Int)→Prop):Prop := (K (p0,(v_cb p0).2))
theorem w_Zg_eq (p0:(Int×(List (Int×Int)))) (K:((Int×(List (Int×Int)))×Int)→Prop):tfn F_Zg A_Zg C_Zg P_Zg R_Zg p0 K = w_Zg p0 K := by kernel_rfl
def s_Zg (p0:(Int×(List (Int×Int)))):((Int×(List (Int×Int)))×Int) := (p0,(v_cb p0).2)
abbrev pre_Zg (_p0:(Int×(List (Int×Int)))):List Prop := []
theorem d_Zg (p0:(Int×(List (Int×Int)))) (K:((Int×(List (Int×Int)))×Int)→Prop) (_hp:∀ p∈pre_Zg p0,p) (h:K (s_Zg p0)):w_Zg p0 K := by
 unfold w_Zg
 unfold s_Zg at h
 exact h
abbrev con_Zg:Con := ⟨P_Zg,R_Zg,fun x => pre_Zg x,fun x => s_Zg x⟩
theorem ok_Zg:ConOk Try.prog 65 con_Zg := okG k_Zg e_Zg hC_Zg fun x hx => tf_of (w_Zg_eq x _) (d_Zg x _ hx rfl)
def C_Z8:Cons := [(65,[],con_Zg),(67,[],con_Z9),(66,[],con_Z5),(69,[],con_Za),(68,[],con_Zb)]
theorem hC_Z8:ConsOk Try.prog C_Z8 := cC ok_Zg <| cC ok_Z9 <| cC ok_Z5 <| cC ok_Za <| cC ok_Zb <| ConsOk.nil
def w_Z8 (p0:(Int×(List (Int×Int)))) (p1:Int) (K:((Int×Int)×Int)→Prop):Prop := (((((v_cb p0).2 == 0)=true) →((0 < p0.2.length) ∧((p0.2.length≤1000) ∧(((((s_Z5 (v_iw p0 p1) (2:Int)) != 0)=true) →(K ((zz0,zz0),(s_Z5 (v_iw p0 p1) (2:Int))))) ∧((((s_Z5 (v_iw p0 p1) (2:Int)) != 0)=false) →((v_bok p0) ∧(((v_iw p0 p1)=true) ∧((((-4611686018427387904:Int)≤(v_cn p0 p1)) ∧((v_cn p0 p1)≤4611686018427387904)) ∧(((zz0 < (v_cd p0 p1)) ∧((v_cd p0 p1)≤4611686018427387904)) ∧(K ((((v_cn p0 p1) / (v_cd p0 p1)),(v_ceil (v_cn p0 p1) (v_cd p0 p1))),zz0))))))))))) ∧((((v_cb p0).2 == 0)=false) →(((((v_cb p0).2 != 0)=true) →(K ((zz0,zz0),(v_cb p0).2))) ∧((((v_cb p0).2 != 0)=false) →((v_bok p0) ∧(((v_iw p0 p1)=true) ∧((((-4611686018427387904:Int)≤(v_cn p0 p1)) ∧((v_cn p0 p1)≤4611686018427387904)) ∧(((zz0 < (v_cd p0 p1)) ∧((v_cd p0 p1)≤4611686018427387904)) ∧(K ((((v_cn p0 p1) / (v_cd p0 p1)),(v_ceil (v_cn p0 p1) (v_cd p0 p1))),zz0))))))))))
theorem w_Z8_eq (p0:(Int×(List (Int×Int)))) (p1:Int) (K:((Int×Int)×Int)→Prop):tfn F_Z8 A_Z8 C_Z8 P_Z8 R_Z8 (p0,p1) K = w_Z8 p0 p1 K := by kernel_rfl
def s_Z8 (p0:(Int×(List (Int×Int)))) (p1:Int):((Int×Int)×Int) := (cond ((v_cb p0).2 == 0) (cond ((s_Z5 (v_iw p0 p1) (2:Int)) != 0) ((0,0),(s_Z5 (v_iw p0 p1) (2:Int))) ((((v_cn p0 p1) / (v_cd p0 p1)),(v_ceil (v_cn p0 p1) (v_cd p0 p1))),(0:Int))) (cond ((v_cb p0).2 != 0) ((0,0),(v_cb p0).2) ((((v_cn p0 p1) / (v_cd p0 p1)),(v_ceil (v_cn p0 p1) (v_cd p0 p1))),(0:Int))))
abbrev pre_Z8 (p0:(Int×(List (Int×Int)))) (p1:Int):List Prop := [((((v_cb p0).2 == 0)=true)→(0 < p0.2.length)),((((v_cb p0).2 == 0)=true)→(p0.2.length≤1000)),((((v_cb p0).2 == 0)=true)→((((s_Z5 (v_iw p0 p1) (2:Int)) != 0)=false)→(v_bok p0))),((((v_cb p0).2 == 0)=true)→((((s_Z5 (v_iw p0 p1) (2:Int)) != 0)=false)→((v_iw p0 p1)=true))),((((v_cb p0).2 == 0)=true)→((((s_Z5 (v_iw p0 p1) (2:Int)) != 0)=false)→(((-4611686018427387904:Int)≤(v_cn p0 p1))∧((v_cn p0 p1)≤4611686018427387904)))),((((v_cb p0).2 == 0)=true)→((((s_Z5 (v_iw p0 p1) (2:Int)) != 0)=false)→(((0:Int) < (v_cd p0 p1))∧((v_cd p0 p1)≤4611686018427387904)))),((((v_cb p0).2 == 0)=false)→((((v_cb p0).2 != 0)=false)→(v_bok p0))),((((v_cb p0).2 == 0)=false)→((((v_cb p0).2 != 0)=false)→((v_iw p0 p1)=true))),((((v_cb p0).2 == 0)=false)→((((v_cb p0).2 != 0)=false)→(((-4611686018427387904:Int)≤(v_cn p0 p1))∧((v_cn p0 p1)≤4611686018427387904)))),((((v_cb p0).2 == 0)=false)→((((v_cb p0).2 != 0)=false)→(((0:Int) < (v_cd p0 p1))∧((v_cd p0 p1)≤4611686018427387904))))]
theorem d_Z8 (p0:(Int×(List (Int×Int)))) (p1:Int) (K:((Int×Int)×Int)→Prop) (hp:∀ p∈pre_Z8 p0 p1,p) (h:K (s_Z8 p0 p1)):w_Z8 p0 p1 K := by
 unfold w_Z8
 unfold s_Z8 at h
 obtain ⟨hp0,hp1,hp2,hp3,hp4,hp5,hp6,hp7,hp8,hp9,_⟩ := conj_of hp
 exact (br' h (fun e0 h => ⟨(hp0 e0),(hp1 e0),(br' h (fun e1 h => h)
  (fun e1 h => ⟨(hp2 e0 e1),(hp3 e0 e1),(hp4 e0 e1),(hp5 e0 e1),h⟩))⟩)
  (fun e0 h => (br' h (fun e2 h => h)
  (fun e2 h => ⟨(hp6 e0 e2),(hp7 e0 e2),(hp8 e0 e2),(hp9 e0 e2),h⟩))))
/-- What ChangeAt answers. -/
def v_chr (b:Int×List (Int×Int)) (t:Int):Int×Int := (v_cn b t / v_cd b t,v_ceil (v_cn b t) (v_cd b t))
def v_cha (b:Int×List (Int×Int)) (t:Int):(Int×Int)×Int := cond ((v_cb b).2 != 0) ((0,0),(v_cb b).2) (cond (v_iw b t) (v_chr b t,0) ((0,0),2))
abbrev t_Z8 (p0:Int×List (Int×Int)) (p1:Int):(Int×Int)×Int := v_cha p0 p1
abbrev qre_Z8 (_p0:Int×List (Int×Int)) (_p1:Int):List Prop := []
theorem pp_Z8 (p0:Int×List (Int×Int)) (p1:Int) (_hq:∀ p∈qre_Z8 p0 p1,p):∀ p∈pre_Z8 p0 p1,p := by
 simp only [pre_Z8,fM]
 rcases int0 (v_cb p0).2 with ⟨z1,e1,e2⟩ | ⟨z1,e1,e2⟩
 ·have h := v_cb_ok z1
  have h2 := h.two
  have h3 := h.len
  cases c:v_iw p0 p1
  ·simp [z1,tx_unless,c]
   omega
  ·have k := v_chb_of h c
   have kn := k.n
   have kd := k.d
   simp [z1,tx_unless,c,h]
   omega
 ·simp [e1,e2]
theorem tt_Z8 (p0:Int×List (Int×Int)) (p1:Int) (_hq:∀ p∈qre_Z8 p0 p1,p):s_Z8 p0 p1 = t_Z8 p0 p1 := by
 unfold s_Z8 t_Z8 v_cha v_chr
 rcases int0 (v_cb p0).2 with ⟨z1,e1,e2⟩ | ⟨z1,e1,e2⟩
 ·cases c:v_iw p0 p1 <;> simp [z1,tx_unless]
 ·simp [e1,e2]

abbrev con_Z8:Con := ⟨P_Z8,R_Z8,fun x => qre_Z8 x.1 x.2,fun x => t_Z8 x.1 x.2⟩
theorem ok_Z8:ConOk Try.prog 18 con_Z8 := okG k_Z8 e_Z8 hC_Z8 fun x hx => tf_of (w_Z8_eq x.1 x.2 _) (d_Z8 x.1 x.2 _ (pp_Z8 x.1 x.2 hx) (tt_Z8 x.1 x.2 hx))
def C_Z1:Cons := [(13,[],con_Zp),(14,[],con_Zk),(15,[],con_Zl),(16,[],con_Zc),(17,[],con_Z2),(19,ownMark,con_Zo),(18,[],con_Z8)]
theorem hC_Z1:ConsOk Try.prog C_Z1 := cC ok_Zp <| cC ok_Zk <| cC ok_Zl <| cC ok_Zc <| cC ok_Z2 <| ConsOk.consO ok_Zo <| cC ok_Z8 <| ConsOk.nil
abbrev q0_Z1 (p0:(Int×(List (Int×Int)))) (y1:Int) := (v_cha (p0.1,(([]:List (Int×Int)) ++ p0.2)) (p0.2.getD y1.toNat (zz0,zz0)).1)
abbrev q1_Z1 (p0:(Int×(List (Int×Int)))) := (cond (!(decide ((p0.2.length:Int)≤22))) true ((v_cb p0).2 != zz0))
abbrev q2_Z1 (p0:(Int×(List (Int×Int)))) (p1:Int) := (v_cha (p0.1,(([]:List (Int×Int)) ++ p0.2)) p1)
abbrev q3_Z1 (p0:(Int×(List (Int×Int)))) (y1:Int) := (((q0_Z1 p0 y1).2 != zz0)=((q0_Z1 p0 y1).2 != zz0))
abbrev q4_Z1 (p0:(Int×(List (Int×Int)))) (p1:Int) := (((q2_Z1 p0 p1).2 != zz0)=((q2_Z1 p0 p1).2 != zz0))
def w_Z1 (p0:(Int×(List (Int×Int)))) (p1:Int) (p2:Int) (K:Bool→Prop):Prop := ((((!(s_Zp))=true) →(K false)) ∧(((!(s_Zp))=false) →((((!(decide ((p0.2.length:Int)≤22)))=false) →((!(decide ((p0.2.length:Int)≤22)))=(!(decide ((p0.2.length:Int)≤22))))) ∧((((!(decide ((p0.2.length:Int)≤22)))=false) →((!(decide ((p0.2.length:Int)≤22)))=(!(decide ((p0.2.length:Int)≤22))))) ∧(((!(decide ((p0.2.length:Int)≤22)))=(!(decide ((p0.2.length:Int)≤22)))) ∧((((q1_Z1 p0)=false) →((q1_Z1 p0)=(q1_Z1 p0))) ∧((((q1_Z1 p0)=false) →((q1_Z1 p0)=(q1_Z1 p0))) ∧((((q1_Z1 p0)=false) →(0 < p0.2.length)) ∧((((q1_Z1 p0)=false) →(p0.2.length≤1000)) ∧((((q1_Z1 p0)=false) →((q1_Z1 p0)=(q1_Z1 p0))) ∧(((q1_Z1 p0)=(q1_Z1 p0)) ∧((((cond (q1_Z1 p0) true (!(v_iw p0 p1)))=false) →((cond (q1_Z1 p0) true (!(v_iw p0 p1)))=(cond (q1_Z1 p0) true (!(v_iw p0 p1))))) ∧((((cond (q1_Z1 p0) true (!(v_iw p0 p1)))=false) →((cond (q1_Z1 p0) true (!(v_iw p0 p1)))=(cond (q1_Z1 p0) true (!(v_iw p0 p1))))) ∧(((cond (q1_Z1 p0) true (!(v_iw p0 p1)))=(cond (q1_Z1 p0) true (!(v_iw p0 p1)))) ∧((((cond (cond (q1_Z1 p0) true (!(v_iw p0 p1))) true (!(s_Z2 p2 zz0 (100000:Int))))=true) →(K true)) ∧(((cond (cond (q1_Z1 p0) true (!(v_iw p0 p1))) true (!(s_Z2 p2 zz0 (100000:Int))))=false) →(((((List.length ([]:List (Int×Int))) + p0.2.length) * 16)≤140737488355328) ∧(((((q2_Z1 p0 p1).2 != zz0)=false) →(q4_Z1 p0 p1)) ∧(((((q2_Z1 p0 p1).2 != zz0)=false) →(q4_Z1 p0 p1)) ∧(((((q2_Z1 p0 p1).2 != zz0)=false) →(q4_Z1 p0 p1)) ∧(((((q2_Z1 p0 p1).2 != zz0)=false) →(q4_Z1 p0 p1)) ∧(((((q2_Z1 p0 p1).2 != zz0)=false) →(q4_Z1 p0 p1)) ∧(((((q2_Z1 p0 p1).2 != zz0)=false) →(q4_Z1 p0 p1)) ∧((q4_Z1 p0 p1) ∧((((cond ((q2_Z1 p0 p1).2 != zz0) true (!(s_Z2 (wi ((q2_Z1 p0 p1).1.2 - (q2_Z1 p0 p1).1.1)) zz0 zz1)))=true) →(K false)) ∧(((cond ((q2_Z1 p0 p1).2 != zz0) true (!(s_Z2 (wi ((q2_Z1 p0 p1).1.2 - (q2_Z1 p0 p1).1.1)) zz0 zz1)))=false) →(∃ n0,(loopP (fun (y1:Int) k2 => ((((decide (y1 < (p0.2.length:Int)))=true) →((zz0≤y1) ∧((y1 < (p0.2.length:Int)) ∧(((((List.length ([]:List (Int×Int))) + p0.2.length) * 16)≤140737488355328) ∧(((((q0_Z1 p0 y1).2 != zz0)=false) →(q3_Z1 p0 y1)) ∧(((((q0_Z1 p0 y1).2 != zz0)=false) →(q3_Z1 p0 y1)) ∧(((((q0_Z1 p0 y1).2 != zz0)=false) →(q3_Z1 p0 y1)) ∧(((((q0_Z1 p0 y1).2 != zz0)=false) →(q3_Z1 p0 y1)) ∧(((((q0_Z1 p0 y1).2 != zz0)=false) →(q3_Z1 p0 y1)) ∧(((((q0_Z1 p0 y1).2 != zz0)=false) →(q3_Z1 p0 y1)) ∧(((((q0_Z1 p0 y1).2 != zz0)=false) →(q3_Z1 p0 y1)) ∧(((((q0_Z1 p0 y1).2 != zz0)=false) →(q3_Z1 p0 y1)) ∧(((((q0_Z1 p0 y1).2 != zz0)=false) →(q3_Z1 p0 y1)) ∧(((((q0_Z1 p0 y1).2 != zz0)=false) →(q3_Z1 p0 y1)) ∧(((((q0_Z1 p0 y1).2 != zz0)=false) →(q3_Z1 p0 y1)) ∧(((((q0_Z1 p0 y1).2 != zz0)=false) →(q3_Z1 p0 y1)) ∧((q3_Z1 p0 y1) ∧((((cond ((q0_Z1 p0 y1).2 != zz0) true (!(((q0_Z1 p0 y1).1.1 == (wi ((p0.2.getD y1.toNat (zz0,zz0)).2 - p0.1))) && (((q0_Z1 p0 y1).1.2 == (wi ((p0.2.getD y1.toNat (zz0,zz0)).2 - p0.1))) && true))))=true) →(K false)) ∧(((cond ((q0_Z1 p0 y1).2 != zz0) true (!(((q0_Z1 p0 y1).1.1 == (wi ((p0.2.getD y1.toNat (zz0,zz0)).2 - p0.1))) && (((q0_Z1 p0 y1).1.2 == (wi ((p0.2.getD y1.toNat (zz0,zz0)).2 - p0.1))) && true))))=false) →((((decide (y1 > zz0))=true) →((decide (y1 > zz0))=(decide (y1 > zz0)))) ∧((((decide (y1 > zz0))=true) →((decide (y1 > zz0))=(decide (y1 > zz0)))) ∧((((decide (y1 > zz0))=true) →((decide (y1 > zz0))=(decide (y1 > zz0)))) ∧((((decide (y1 > zz0))=true) →((decide (y1 > zz0))=(decide (y1 > zz0)))) ∧((((decide (y1 > zz0))=true) →(zz0≤(wi (y1 - zz1)))) ∧((((decide (y1 > zz0))=true) →((wi (y1 - zz1)) < (p0.2.length:Int))) ∧((((decide (y1 > zz0))=true) →((decide (y1 > zz0))=(decide (y1 > zz0)))) ∧((((decide (y1 > zz0))=true) →((decide (y1 > zz0))=(decide (y1 > zz0)))) ∧((((decide (y1 > zz0))=true) →((decide (y1 > zz0))=(decide (y1 > zz0)))) ∧((((decide (y1 > zz0))=true) →((decide (y1 > zz0))=(decide (y1 > zz0)))) ∧((((decide (y1 > zz0))=true) →((decide (y1 > zz0))=(decide (y1 > zz0)))) ∧((((decide (y1 > zz0))=true) →((decide (y1 > zz0))=(decide (y1 > zz0)))) ∧(((decide (y1 > zz0))=(decide (y1 > zz0))) ∧((((cond (decide (y1 > zz0)) (s_Z2 p1 (p0.2.getD (Int.toNat (wi (y1 - zz1))) (zz0,zz0)).1 (p0.2.getD y1.toNat (zz0,zz0)).1) false)=true) →((zz0≤(wi (y1 - zz1))) ∧(((wi (y1 - zz1)) < (p0.2.length:Int)) ∧((((decide ((q2_Z1 p0 p1).1.1 < (min (wi ((p0.2.getD (Int.toNat (wi (y1 - zz1))) (zz0,zz0)).2 - p0.1)) (q0_Z1 p0 y1).1.1)))=false) →((decide ((q2_Z1 p0 p1).1.1 < (min (wi ((p0.2.getD (Int.toNat (wi (y1 - zz1))) (zz0,zz0)).2 - p0.1)) (q0_Z1 p0 y1).1.1)))=(decide ((q2_Z1 p0 p1).1.1 < (min (wi ((p0.2.getD (Int.toNat (wi (y1 - zz1))) (zz0,zz0)).2 - p0.1)) (q0_Z1 p0 y1).1.1))))) ∧((((decide ((q2_Z1 p0 p1).1.1 < (min (wi ((p0.2.getD (Int.toNat (wi (y1 - zz1))) (zz0,zz0)).2 - p0.1)) (q0_Z1 p0 y1).1.1)))=false) →((decide ((q2_Z1 p0 p1).1.1 < (min (wi ((p0.2.getD (Int.toNat (wi (y1 - zz1))) (zz0,zz0)).2 - p0.1)) (q0_Z1 p0 y1).1.1)))=(decide ((q2_Z1 p0 p1).1.1 < (min (wi ((p0.2.getD (Int.toNat (wi (y1 - zz1))) (zz0,zz0)).2 - p0.1)) (q0_Z1 p0 y1).1.1))))) ∧((((decide ((q2_Z1 p0 p1).1.1 < (min (wi ((p0.2.getD (Int.toNat (wi (y1 - zz1))) (zz0,zz0)).2 - p0.1)) (q0_Z1 p0 y1).1.1)))=false) →((decide ((q2_Z1 p0 p1).1.1 < (min (wi ((p0.2.getD (Int.toNat (wi (y1 - zz1))) (zz0,zz0)).2 - p0.1)) (q0_Z1 p0 y1).1.1)))=(decide ((q2_Z1 p0 p1).1.1 < (min (wi ((p0.2.getD (Int.toNat (wi (y1 - zz1))) (zz0,zz0)).2 - p0.1)) (q0_Z1 p0 y1).1.1))))) ∧((((decide ((q2_Z1 p0 p1).1.1 < (min (wi ((p0.2.getD (Int.toNat (wi (y1 - zz1))) (zz0,zz0)).2 - p0.1)) (q0_Z1 p0 y1).1.1)))=false) →((decide ((q2_Z1 p0 p1).1.1 < (min (wi ((p0.2.getD (Int.toNat (wi (y1 - zz1))) (zz0,zz0)).2 - p0.1)) (q0_Z1 p0 y1).1.1)))=(decide ((q2_Z1 p0 p1).1.1 < (min (wi ((p0.2.getD (Int.toNat (wi (y1 - zz1))) (zz0,zz0)).2 - p0.1)) (q0_Z1 p0 y1).1.1))))) ∧((((decide ((q2_Z1 p0 p1).1.1 < (min (wi ((p0.2.getD (Int.toNat (wi (y1 - zz1))) (zz0,zz0)).2 - p0.1)) (q0_Z1 p0 y1).1.1)))=false) →((decide ((q2_Z1 p0 p1).1.1 < (min (wi ((p0.2.getD (Int.toNat (wi (y1 - zz1))) (zz0,zz0)).2 - p0.1)) (q0_Z1 p0 y1).1.1)))=(decide ((q2_Z1 p0 p1).1.1 < (min (wi ((p0.2.getD (Int.toNat (wi (y1 - zz1))) (zz0,zz0)).2 - p0.1)) (q0_Z1 p0 y1).1.1))))) ∧((((decide ((q2_Z1 p0 p1).1.1 < (min (wi ((p0.2.getD (Int.toNat (wi (y1 - zz1))) (zz0,zz0)).2 - p0.1)) (q0_Z1 p0 y1).1.1)))=false) →((decide ((q2_Z1 p0 p1).1.1 < (min (wi ((p0.2.getD (Int.toNat (wi (y1 - zz1))) (zz0,zz0)).2 - p0.1)) (q0_Z1 p0 y1).1.1)))=(decide ((q2_Z1 p0 p1).1.1 < (min (wi ((p0.2.getD (Int.toNat (wi (y1 - zz1))) (zz0,zz0)).2 - p0.1)) (q0_Z1 p0 y1).1.1))))) ∧(((decide ((q2_Z1 p0 p1).1.1 < (min (wi ((p0.2.getD (Int.toNat (wi (y1 - zz1))) (zz0,zz0)).2 - p0.1)) (q0_Z1 p0 y1).1.1)))=(decide ((q2_Z1 p0 p1).1.1 < (min (wi ((p0.2.getD (Int.toNat (wi (y1 - zz1))) (zz0,zz0)).2 - p0.1)) (q0_Z1 p0 y1).1.1)))) ∧((((cond (decide ((q2_Z1 p0 p1).1.1 < (min (wi ((p0.2.getD (Int.toNat (wi (y1 - zz1))) (zz0,zz0)).2 - p0.1)) (q0_Z1 p0 y1).1.1))) true (decide ((q2_Z1 p0 p1).1.2 > (max (wi ((p0.2.getD (Int.toNat (wi (y1 - zz1))) (zz0,zz0)).2 - p0.1)) (q0_Z1 p0 y1).1.1))))=true) →(K false)) ∧(((cond (decide ((q2_Z1 p0 p1).1.1 < (min (wi ((p0.2.getD (Int.toNat (wi (y1 - zz1))) (zz0,zz0)).2 - p0.1)) (q0_Z1 p0 y1).1.1))) true (decide ((q2_Z1 p0 p1).1.2 > (max (wi ((p0.2.getD (Int.toNat (wi (y1 - zz1))) (zz0,zz0)).2 - p0.1)) (q0_Z1 p0 y1).1.1))))=false) →(k2 (wi (y1 + zz1))))))))))))))) ∧(((cond (decide (y1 > zz0)) (s_Z2 p1 (p0.2.getD (Int.toNat (wi (y1 - zz1))) (zz0,zz0)).1 (p0.2.getD y1.toNat (zz0,zz0)).1) false)=false) →(k2 (wi (y1 + zz1))))))))))))))))))))))))))))))))))))) ∧(((decide (y1 < (p0.2.length:Int)))=false) →(((((List.length ([]:List (Int×Int))) + p0.2.length) * 16)≤140737488355328) ∧(∃ n3,(loopP (fun (y4:(Int×(List (Int×Int)))) k5 => ((((decide (y4.1 < (y4.2.length:Int)))=true) →((zz0≤y4.1) ∧((y4.1 < (y4.2.length:Int)) ∧((zz0≤y4.1) ∧((y4.1 < (y4.2.length:Int)) ∧(k5 ((wi (y4.1 + zz1)),(List.set y4.2 y4.1.toNat ((y4.2.getD y4.1.toNat (zz0,zz0)).1,(wi ((y4.2.getD y4.1.toNat (zz0,zz0)).2 + p2))))))))))) ∧(((decide (y4.1 < (y4.2.length:Int)))=false) →(((((v_cb ((wi (p0.1 + p2)),y4.2)).2 != zz0)=true) →(K true)) ∧((((v_cb ((wi (p0.1 + p2)),y4.2)).2 != zz0)=false) →(((((v_cha ((wi (p0.1 + p2)),y4.2) p1).2 == zz0)=true) →(((v_cha ((wi (p0.1 + p2)),y4.2) p1).2 == zz0)=((v_cha ((wi (p0.1 + p2)),y4.2) p1).2 == zz0))) ∧(((((v_cha ((wi (p0.1 + p2)),y4.2) p1).2 == zz0)=true) →(((v_cha ((wi (p0.1 + p2)),y4.2) p1).2 == zz0)=((v_cha ((wi (p0.1 + p2)),y4.2) p1).2 == zz0))) ∧((((v_cha ((wi (p0.1 + p2)),y4.2) p1).2 == zz0)=((v_cha ((wi (p0.1 + p2)),y4.2) p1).2 == zz0)) ∧(K (cond ((v_cha ((wi (p0.1 + p2)),y4.2) p1).2 == zz0) (((v_cha ((wi (p0.1 + p2)),y4.2) p1).1.1 == (q2_Z1 p0 p1).1.1) && (((v_cha ((wi (p0.1 + p2)),y4.2) p1).1.2 == (q2_Z1 p0 p1).1.2) && true)) false)))))))))) n3 (zz0,(([]:List (Int×Int)) ++ p0.2)))))))) n0 zz0))))))))))))))))))))))))))))
theorem w_Z1_eq (p0:(Int×(List (Int×Int)))) (p1:Int) (p2:Int) (K:Bool→Prop):tfn F_Z1 A_Z1 C_Z1 P_Z1 R_Z1 (p0,p1,p2) K = w_Z1 p0 p1 p2 K := by kernel_rfl
def st_Z1_0 (p0:(Int×(List (Int×Int)))) (p1:Int) (p2:Int) (_y2:Int) (y7:(Int×(List (Int×Int)))):(Int×(List (Int×Int))) ⊕ (Int ⊕ Bool) := (cond (decide (y7.1 < (y7.2.length:Int))) (Sum.inl ((IntKind.i64.wrap (y7.1 + 1)),(List.set y7.2 y7.1.toNat ((y7.2.getD y7.1.toNat (0,0)).1,(IntKind.i64.wrap ((y7.2.getD y7.1.toNat (0,0)).2 + p2)))))) (cond ((v_cb ((IntKind.i64.wrap (p0.1 + p2)),y7.2)).2 != 0) (Sum.inr (Sum.inr true)) (Sum.inr (Sum.inr (cond ((v_cha ((IntKind.i64.wrap (p0.1 + p2)),y7.2) p1).2 == 0) (((v_cha ((IntKind.i64.wrap (p0.1 + p2)),y7.2) p1).1.1 == (v_cha (p0.1,(([]:List (Int×Int)) ++ p0.2)) p1).1.1) && (((v_cha ((IntKind.i64.wrap (p0.1 + p2)),y7.2) p1).1.2 == (v_cha (p0.1,(([]:List (Int×Int)) ++ p0.2)) p1).1.2) && true)) false)))))
abbrev sp_Z1_0 (_p0:(Int×(List (Int×Int)))) (_p1:Int) (_p2:Int) (_y2:Int) (y7:(Int×(List (Int×Int)))):List Prop := [(((decide (y7.1 < (y7.2.length:Int)))=true)→((0:Int)≤y7.1)),(((decide (y7.1 < (y7.2.length:Int)))=true)→(y7.1 < (y7.2.length:Int)))]
def st_Z1_1 (p0:(Int×(List (Int×Int)))) (p1:Int) (p2:Int) (y2:Int):Int ⊕ Bool := (cond (decide (y2 < (p0.2.length:Int))) (cond (cond ((v_cha (p0.1,(([]:List (Int×Int)) ++ p0.2)) (p0.2.getD y2.toNat (0,0)).1).2 != 0) true (!(((v_cha (p0.1,(([]:List (Int×Int)) ++ p0.2)) (p0.2.getD y2.toNat (0,0)).1).1.1 == (IntKind.i64.wrap ((p0.2.getD y2.toNat (0,0)).2 - p0.1))) && (((v_cha (p0.1,(([]:List (Int×Int)) ++ p0.2)) (p0.2.getD y2.toNat (0,0)).1).1.2 == (IntKind.i64.wrap ((p0.2.getD y2.toNat (0,0)).2 - p0.1))) && true)))) (Sum.inr false) (cond (cond (decide (y2 > 0)) (s_Z2 p1 (p0.2.getD (Int.toNat (IntKind.i64.wrap (y2 - 1))) (0,0)).1 (p0.2.getD y2.toNat (0,0)).1) false) (cond (cond (decide ((v_cha (p0.1,(([]:List (Int×Int)) ++ p0.2)) p1).1.1 < (min (IntKind.i64.wrap ((p0.2.getD (Int.toNat (IntKind.i64.wrap (y2 - 1))) (0,0)).2 - p0.1)) (v_cha (p0.1,(([]:List (Int×Int)) ++ p0.2)) (p0.2.getD y2.toNat (0,0)).1).1.1))) true (decide ((v_cha (p0.1,(([]:List (Int×Int)) ++ p0.2)) p1).1.2 > (max (IntKind.i64.wrap ((p0.2.getD (Int.toNat (IntKind.i64.wrap (y2 - 1))) (0,0)).2 - p0.1)) (v_cha (p0.1,(([]:List (Int×Int)) ++ p0.2)) (p0.2.getD y2.toNat (0,0)).1).1.1)))) (Sum.inr false) (Sum.inl (IntKind.i64.wrap (y2 + 1)))) (Sum.inl (IntKind.i64.wrap (y2 + 1))))) (lpv (Sum.inr false) (st_Z1_0 p0 p1 p2 y2) ((0:Int),(([]:List (Int×Int)) ++ p0.2))))
abbrev sp_Z1_1 (p0:(Int×(List (Int×Int)))) (p1:Int) (p2:Int) (y2:Int):List Prop := [(((decide (y2 < (p0.2.length:Int)))=true)→((0:Int)≤y2)),(((decide (y2 < (p0.2.length:Int)))=true)→(y2 < (p0.2.length:Int))),(((decide (y2 < (p0.2.length:Int)))=true)→((((List.length ([]:List (Int×Int))) + p0.2.length) * 16)≤140737488355328)),(((decide (y2 < (p0.2.length:Int)))=true)→(((cond ((v_cha (p0.1,(([]:List (Int×Int)) ++ p0.2)) (p0.2.getD y2.toNat (0,0)).1).2 != 0) true (!(((v_cha (p0.1,(([]:List (Int×Int)) ++ p0.2)) (p0.2.getD y2.toNat (0,0)).1).1.1 == (IntKind.i64.wrap ((p0.2.getD y2.toNat (0,0)).2 - p0.1))) && (((v_cha (p0.1,(([]:List (Int×Int)) ++ p0.2)) (p0.2.getD y2.toNat (0,0)).1).1.2 == (IntKind.i64.wrap ((p0.2.getD y2.toNat (0,0)).2 - p0.1))) && true))))=false)→(((decide (y2 > 0))=true)→((0:Int)≤(IntKind.i64.wrap (y2 - 1)))))),(((decide (y2 < (p0.2.length:Int)))=true)→(((cond ((v_cha (p0.1,(([]:List (Int×Int)) ++ p0.2)) (p0.2.getD y2.toNat (0,0)).1).2 != 0) true (!(((v_cha (p0.1,(([]:List (Int×Int)) ++ p0.2)) (p0.2.getD y2.toNat (0,0)).1).1.1 == (IntKind.i64.wrap ((p0.2.getD y2.toNat (0,0)).2 - p0.1))) && (((v_cha (p0.1,(([]:List (Int×Int)) ++ p0.2)) (p0.2.getD y2.toNat (0,0)).1).1.2 == (IntKind.i64.wrap ((p0.2.getD y2.toNat (0,0)).2 - p0.1))) && true))))=false)→(((decide (y2 > 0))=true)→((IntKind.i64.wrap (y2 - 1)) < (p0.2.length:Int))))),(((decide (y2 < (p0.2.length:Int)))=true)→(((cond ((v_cha (p0.1,(([]:List (Int×Int)) ++ p0.2)) (p0.2.getD y2.toNat (0,0)).1).2 != 0) true (!(((v_cha (p0.1,(([]:List (Int×Int)) ++ p0.2)) (p0.2.getD y2.toNat (0,0)).1).1.1 == (IntKind.i64.wrap ((p0.2.getD y2.toNat (0,0)).2 - p0.1))) && (((v_cha (p0.1,(([]:List (Int×Int)) ++ p0.2)) (p0.2.getD y2.toNat (0,0)).1).1.2 == (IntKind.i64.wrap ((p0.2.getD y2.toNat (0,0)).2 - p0.1))) && true))))=false)→(((cond (decide (y2 > 0)) (s_Z2 p1 (p0.2.getD (Int.toNat (IntKind.i64.wrap (y2 - 1))) (0,0)).1 (p0.2.getD y2.toNat (0,0)).1) false)=true)→((0:Int)≤(IntKind.i64.wrap (y2 - 1)))))),(((decide (y2 < (p0.2.length:Int)))=true)→(((cond ((v_cha (p0.1,(([]:List (Int×Int)) ++ p0.2)) (p0.2.getD y2.toNat (0,0)).1).2 != 0) true (!(((v_cha (p0.1,(([]:List (Int×Int)) ++ p0.2)) (p0.2.getD y2.toNat (0,0)).1).1.1 == (IntKind.i64.wrap ((p0.2.getD y2.toNat (0,0)).2 - p0.1))) && (((v_cha (p0.1,(([]:List (Int×Int)) ++ p0.2)) (p0.2.getD y2.toNat (0,0)).1).1.2 == (IntKind.i64.wrap ((p0.2.getD y2.toNat (0,0)).2 - p0.1))) && true))))=false)→(((cond (decide (y2 > 0)) (s_Z2 p1 (p0.2.getD (Int.toNat (IntKind.i64.wrap (y2 - 1))) (0,0)).1 (p0.2.getD y2.toNat (0,0)).1) false)=true)→((IntKind.i64.wrap (y2 - 1)) < (p0.2.length:Int))))),(((decide (y2 < (p0.2.length:Int)))=false)→((((List.length ([]:List (Int×Int))) + p0.2.length) * 16)≤140737488355328)),(((decide (y2 < (p0.2.length:Int)))=false)→(OkL (st_Z1_0 p0 p1 p2 y2) (sp_Z1_0 p0 p1 p2 y2) ((0:Int),(([]:List (Int×Int)) ++ p0.2))))]
def s_Z1 (p0:(Int×(List (Int×Int)))) (p1:Int) (p2:Int):Bool := (cond (cond (cond (cond (!(decide ((p0.2.length:Int)≤22))) true ((v_cb p0).2 != 0)) true (!(v_iw p0 p1))) true (!(s_Z2 p2 (0:Int) (100000:Int)))) true (cond (cond ((v_cha (p0.1,(([]:List (Int×Int)) ++ p0.2)) p1).2 != 0) true (!(s_Z2 (IntKind.i64.wrap ((v_cha (p0.1,(([]:List (Int×Int)) ++ p0.2)) p1).1.2 - (v_cha (p0.1,(([]:List (Int×Int)) ++ p0.2)) p1).1.1)) (0:Int) (1:Int)))) false (lpv false (st_Z1_1 p0 p1 p2) (0:Int))))
abbrev pre_Z1 (p0:(Int×(List (Int×Int)))) (p1:Int) (p2:Int):List Prop := [(((cond (!(decide ((p0.2.length:Int)≤22))) true ((v_cb p0).2 != 0))=false)→(0 < p0.2.length)),(((cond (!(decide ((p0.2.length:Int)≤22))) true ((v_cb p0).2 != 0))=false)→(p0.2.length≤1000)),(((cond (cond (cond (!(decide ((p0.2.length:Int)≤22))) true ((v_cb p0).2 != 0)) true (!(v_iw p0 p1))) true (!(s_Z2 p2 (0:Int) (100000:Int))))=false)→((((List.length ([]:List (Int×Int))) + p0.2.length) * 16)≤140737488355328)),(((cond (cond (cond (!(decide ((p0.2.length:Int)≤22))) true ((v_cb p0).2 != 0)) true (!(v_iw p0 p1))) true (!(s_Z2 p2 (0:Int) (100000:Int))))=false)→(((cond ((v_cha (p0.1,(([]:List (Int×Int)) ++ p0.2)) p1).2 != 0) true (!(s_Z2 (IntKind.i64.wrap ((v_cha (p0.1,(([]:List (Int×Int)) ++ p0.2)) p1).1.2 - (v_cha (p0.1,(([]:List (Int×Int)) ++ p0.2)) p1).1.1)) (0:Int) (1:Int))))=false)→(OkL (st_Z1_1 p0 p1 p2) (sp_Z1_1 p0 p1 p2) (0:Int))))]
theorem d_Z1 (p0:(Int×(List (Int×Int)))) (p1:Int) (p2:Int) (K:Bool→Prop) (hp:∀ p∈pre_Z1 p0 p1 p2,p) (h:K (s_Z1 p0 p1 p2)):w_Z1 p0 p1 p2 K := by
 unfold w_Z1
 unfold s_Z1 at h
 obtain ⟨hp0,hp1,hp2,hp3,_⟩ := conj_of hp
 exact ⟨nof,fun _ => ⟨rf,rf,rfl,rf,rf,(hp0),(hp1),rf,rfl,rf,rf,rfl,(br' h (fun e0 h => h)
  (fun e0 h => ⟨(hp2 e0),rf,rf,rf,rf,rf,rf,rfl,(br' h (fun e1 h => h)
  (fun e1 h => (loop_gen (hp3 e0 e1) h (fun y2 k2 hp h => by
 unfold st_Z1_1 at h; obtain ⟨hp0,hp1,hp2,hp3,hp4,hp5,hp6,hp7,hp8,_⟩ := conj_of hp
 exact (br' h (fun e3 h => ⟨(hp0 e3),(hp1 e3),(hp2 e3),rf,rf,rf,rf,rf,rf,rf,rf,rf,rf,rf,rf,rfl,(br' h (fun e4 h => h)
  (fun e4 h => ⟨rf,rf,rf,rf,(hp3 e3 e4),(hp4 e3 e4),rf,rf,rf,rf,rf,rf,rfl,(br' h (fun e5 h => ⟨(hp5 e3 e4 e5),(hp6 e3 e4 e5),rf,rf,rf,rf,rf,rf,rfl,(br' h (fun e6 h => h)
  (fun e6 h => h))⟩)
  (fun e5 h => h))⟩))⟩)
  (fun e3 h => ⟨(hp7 e3),(loop_gen (hp8 e3) h (fun y7 k7 hp h => by
 unfold st_Z1_0 at h; obtain ⟨hp0,hp1,_⟩ := conj_of hp
 exact (br' h (fun e8 h => ⟨(hp0 e8),(hp1 e8),(hp0 e8),(hp1 e8),h⟩)
  (fun e8 h => (br' h (fun e9 h => h)
  (fun e9 h => ⟨rf,rf,rfl,h⟩))))))⟩))))))⟩))⟩⟩
abbrev con_Z1:Con := ⟨P_Z1,R_Z1,fun x => pre_Z1 x.1 x.2.1 x.2.2,fun x => s_Z1 x.1 x.2.1 x.2.2⟩
theorem ok_Z1:ConOk Try.prog 3 con_Z1 := okG k_Z1 e_Z1 hC_Z1 fun x hx => tf_of (w_Z1_eq x.1 x.2.1 x.2.2 _) (d_Z1 x.1 x.2.1 x.2.2 _ hx rfl)
end Go.Proofs.Ytdkhhafmidokmaa
