/- What the functions that MagnetBases reaches compute: contracts, each function once. No condition. -/
import Derived.Test.YtdkhhafmidokmaaGreatLayB
import Derived.Test.YtdkhhafmidokmaaGreatAwMzMagnetBases
import Derived.KernelRfl
namespace Go.Proofs.YtdkhhafmidokmaaGreat
open Go Go.Mx
set_option maxRecDepth 100000
set_option maxHeartbeats 4000000
abbrev gF:=List Int
abbrev gG:=Int×Int
abbrev gA:=List (List Int×List Int)
abbrev gB:=List (Int×Int×Int)
abbrev gC:=List (Int×Int)
abbrev gE:=Int×List Int
abbrev gD:=(Int×List Int)×(Int×List Int)
theorem fM.{u} {α:Type u} {p:α→Prop} {a:α} {l:List α}:(∀ x∈a::l,p x) ↔ p a ∧ ∀ x∈l,p x := List.forall_mem_cons
theorem cC {P:Program} {f:FuncId} {ids:List FuncId} {c:Con} {C:Cons} (h:ConOk P f c) (hC:ConsOk P C) (hm:isMark ids=false := by rfl):ConsOk P ((f,ids,c)::C) := ConsOk.cons h hC hm
theorem okG {P:Program} {f:FuncId} {F:TFn} {A:Nat→Ty} {C:Cons} {ps rs:List PSh} {pre:(tyPs ps).den→List Prop} {s:(tyPs ps).den→(tyPs rs).den} (k:callable P f=true) (e:cFn P f=some F.erase) (hC:ConsOk P C) (h:∀ x,(∀ p∈pre x,p)→Tf F A C ps rs x (fun z => z=s x)):ConOk P f ⟨ps,rs,pre,s⟩ := ⟨k,fun x hx => ret_tf e hC (h x hx)⟩
abbrev wi (n:Int):Int := IntKind.i64.wrap n
abbrev zz0:Int := 0
abbrev zz1:Int := 1
abbrev zz2:Int := 2
theorem nof {p:Prop} (h:false = true):p := Bool.noConfusion h
theorem rf {p:Prop} {α:Sort _} {a:α} (_:p):a = a := rfl
def v_ceil (a b:Int):Int := -((-a) / b)
def C_Z1o:Cons := []
theorem hC_Z1o:ConsOk Tryz.prog C_Z1o := ConsOk.nil
def w_Z1o (p0:(Int×(List (Int×Int)))) (K:Bool→Prop):Prop := (K (decide ((p0.2.length:Int)≤22)))
theorem w_Z1o_eq (p0:(Int×(List (Int×Int)))) (K:Bool→Prop):tfn F_Z1o A_Z1o C_Z1o P_Z1o R_Z1o p0 K = w_Z1o p0 K := by kernel_rfl
def s_Z1o (p0:(Int×(List (Int×Int)))):Bool := (decide ((p0.2.length:Int)≤22))
abbrev pre_Z1o (_p0:(Int×(List (Int×Int)))):List Prop := []
theorem d_Z1o (p0:(Int×(List (Int×Int)))) (K:Bool→Prop) (_hp:∀ p∈pre_Z1o p0,p) (h:K (s_Z1o p0)):w_Z1o p0 K := by
 unfold w_Z1o
 unfold s_Z1o at h
 exact h
abbrev con_Z1o:Con := ⟨P_Z1o,R_Z1o,fun x => pre_Z1o x,fun x => s_Z1o x⟩
theorem ok_Z1o:ConOk Tryz.prog 6 con_Z1o := okG k_Z1o e_Z1o hC_Z1o fun x hx => tf_of (w_Z1o_eq x _) (d_Z1o x _ hx rfl)
def C_Z1p:Cons := []
theorem hC_Z1p:ConsOk Tryz.prog C_Z1p := ConsOk.nil
def w_Z1p (p0:(List (Int×(Int×(Int×(Int×Int)))))) (K:Bool→Prop):Prop := (K (decide ((p0.length:Int)≤22)))
theorem w_Z1p_eq (p0:(List (Int×(Int×(Int×(Int×Int)))))) (K:Bool→Prop):tfn F_Z1p A_Z1p C_Z1p P_Z1p R_Z1p p0 K = w_Z1p p0 K := by kernel_rfl
def s_Z1p (p0:(List (Int×(Int×(Int×(Int×Int)))))):Bool := (decide ((p0.length:Int)≤22))
abbrev pre_Z1p (_p0:(List (Int×(Int×(Int×(Int×Int)))))):List Prop := []
theorem d_Z1p (p0:(List (Int×(Int×(Int×(Int×Int)))))) (K:Bool→Prop) (_hp:∀ p∈pre_Z1p p0,p) (h:K (s_Z1p p0)):w_Z1p p0 K := by
 unfold w_Z1p
 unfold s_Z1p at h
 exact h
abbrev con_Z1p:Con := ⟨P_Z1p,R_Z1p,fun x => pre_Z1p x,fun x => s_Z1p x⟩
theorem ok_Z1p:ConOk Tryz.prog 7 con_Z1p := okG k_Z1p e_Z1p hC_Z1p fun x hx => tf_of (w_Z1p_eq x _) (d_Z1p x _ hx rfl)
def C_Z1q:Cons := []
theorem hC_Z1q:ConsOk Tryz.prog C_Z1q := ConsOk.nil
def w_Z1q (p0:(Int×(List (Int×Int)))) (K:(Int×(List (Int×Int)))→Prop):Prop := (((((List.length ([]:List (Int×Int))) + p0.2.length) * 16)≤140737488355328) ∧(K (p0.1,(([]:List (Int×Int)) ++ p0.2))))
theorem w_Z1q_eq (p0:(Int×(List (Int×Int)))) (K:(Int×(List (Int×Int)))→Prop):tfn F_Z1q A_Z1q C_Z1q P_Z1q R_Z1q p0 K = w_Z1q p0 K := by kernel_rfl
def s_Z1q (p0:(Int×(List (Int×Int)))):(Int×(List (Int×Int))) := (p0.1,(([]:List (Int×Int)) ++ p0.2))
abbrev pre_Z1q (p0:(Int×(List (Int×Int)))):List Prop := [((((List.length ([]:List (Int×Int))) + p0.2.length) * 16)≤140737488355328)]
theorem d_Z1q (p0:(Int×(List (Int×Int)))) (K:(Int×(List (Int×Int)))→Prop) (hp:∀ p∈pre_Z1q p0,p) (h:K (s_Z1q p0)):w_Z1q p0 K := by
 unfold w_Z1q
 unfold s_Z1q at h
 obtain ⟨hp0,_⟩ := conj_of hp
 exact ⟨(hp0),h⟩
abbrev con_Z1q:Con := ⟨P_Z1q,R_Z1q,fun x => pre_Z1q x,fun x => s_Z1q x⟩
theorem ok_Z1q:ConOk Tryz.prog 9 con_Z1q := okG k_Z1q e_Z1q hC_Z1q fun x hx => tf_of (w_Z1q_eq x _) (d_Z1q x _ hx rfl)
def C_Z3:Cons := []
theorem hC_Z3:ConsOk Tryz.prog C_Z3 := ConsOk.nil
def w_Z3 (p0:Int) (p1:Int) (p2:Int) (K:Bool→Prop):Prop := ((((decide (p1≤p0))=true) →((decide (p1≤p0))=(decide (p1≤p0)))) ∧((((decide (p1≤p0))=true) →((decide (p1≤p0))=(decide (p1≤p0)))) ∧(((decide (p1≤p0))=(decide (p1≤p0))) ∧(K (cond (decide (p1≤p0)) (decide (p0≤p2)) false)))))
theorem w_Z3_eq (p0:Int) (p1:Int) (p2:Int) (K:Bool→Prop):tfn F_Z3 A_Z3 C_Z3 P_Z3 R_Z3 (p0,p1,p2) K = w_Z3 p0 p1 p2 K := by kernel_rfl
def s_Z3 (p0:Int) (p1:Int) (p2:Int):Bool := (cond (decide (p1≤p0)) (decide (p0≤p2)) false)
abbrev pre_Z3 (_p0:Int) (_p1:Int) (_p2:Int):List Prop := []
theorem d_Z3 (p0:Int) (p1:Int) (p2:Int) (K:Bool→Prop) (_hp:∀ p∈pre_Z3 p0 p1 p2,p) (h:K (s_Z3 p0 p1 p2)):w_Z3 p0 p1 p2 K := by
 unfold w_Z3
 unfold s_Z3 at h
 exact ⟨rf,rf,rfl,h⟩
abbrev con_Z3:Con := ⟨P_Z3,R_Z3,fun x => pre_Z3 x.1 x.2.1 x.2.2,fun x => s_Z3 x.1 x.2.1 x.2.2⟩
theorem ok_Z3:ConOk Tryz.prog 42 con_Z3 := okG k_Z3 e_Z3 hC_Z3 fun x hx => tf_of (w_Z3_eq x.1 x.2.1 x.2.2 _) (d_Z3 x.1 x.2.1 x.2.2 _ hx rfl)
theorem tx_within {n lo hi:Int}:s_Z3 n lo hi = true ↔ lo≤n∧n≤hi := by unfold s_Z3; simp
def C_Z1j:Cons := [(42,[],con_Z3)]
theorem hC_Z1j:ConsOk Tryz.prog C_Z1j := cC ok_Z3 <| ConsOk.nil
def w_Z1j (p0:Int) (K:Bool→Prop):Prop := (K (s_Z3 p0 (-100000:Int) (100000:Int)))
theorem w_Z1j_eq (p0:Int) (K:Bool→Prop):tfn F_Z1j A_Z1j C_Z1j P_Z1j R_Z1j p0 K = w_Z1j p0 K := by kernel_rfl
def s_Z1j (p0:Int):Bool := (s_Z3 p0 (-100000:Int) (100000:Int))
abbrev pre_Z1j (_p0:Int):List Prop := []
theorem d_Z1j (p0:Int) (K:Bool→Prop) (_hp:∀ p∈pre_Z1j p0,p) (h:K (s_Z1j p0)):w_Z1j p0 K := by
 unfold w_Z1j
 unfold s_Z1j at h
 exact h
abbrev con_Z1j:Con := ⟨P_Z1j,R_Z1j,fun x => pre_Z1j x,fun x => s_Z1j x⟩
theorem ok_Z1j:ConOk Tryz.prog 40 con_Z1j := okG k_Z1j e_Z1j hC_Z1j fun x hx => tf_of (w_Z1j_eq x _) (d_Z1j x _ hx rfl)
def C_Z1k:Cons := [(42,[],con_Z3)]
theorem hC_Z1k:ConsOk Tryz.prog C_Z1k := cC ok_Z3 <| ConsOk.nil
def w_Z1k (p0:Int) (K:Bool→Prop):Prop := (K (s_Z3 p0 zz0 (1000000000000:Int)))
theorem w_Z1k_eq (p0:Int) (K:Bool→Prop):tfn F_Z1k A_Z1k C_Z1k P_Z1k R_Z1k p0 K = w_Z1k p0 K := by kernel_rfl
def s_Z1k (p0:Int):Bool := (s_Z3 p0 (0:Int) (1000000000000:Int))
abbrev pre_Z1k (_p0:Int):List Prop := []
theorem d_Z1k (p0:Int) (K:Bool→Prop) (_hp:∀ p∈pre_Z1k p0,p) (h:K (s_Z1k p0)):w_Z1k p0 K := by
 unfold w_Z1k
 unfold s_Z1k at h
 exact h
abbrev con_Z1k:Con := ⟨P_Z1k,R_Z1k,fun x => pre_Z1k x,fun x => s_Z1k x⟩
theorem ok_Z1k:ConOk Tryz.prog 41 con_Z1k := okG k_Z1k e_Z1k hC_Z1k fun x hx => tf_of (w_Z1k_eq x _) (d_Z1k x _ hx rfl)
def C_Zc:Cons := [(40,[],con_Z1j),(41,[],con_Z1k)]
theorem hC_Zc:ConsOk Tryz.prog C_Zc := cC ok_Z1j <| cC ok_Z1k <| ConsOk.nil
abbrev q0_Zc (p0:(Int×(List (Int×Int)))) (y1:Int) := (!(s_Z3 (p0.2.getD y1.toNat (zz0,zz0)).1 zz0 (1000000000000:Int)))
def w_Zc (p0:(Int×(List (Int×Int)))) (K:(Int×Int)→Prop):Prop := ((((!(s_Z3 p0.1 (-100000:Int) (100000:Int)))=true) →(K (zz0,zz2))) ∧(((!(s_Z3 p0.1 (-100000:Int) (100000:Int)))=false) →((((decide ((p0.2.length:Int) < zz2))=true) →(K (zz0,(10:Int)))) ∧(((decide ((p0.2.length:Int) < zz2))=false) →((((decide ((p0.2.length:Int) > 20))=true) →(K (zz0,(8:Int)))) ∧(((decide ((p0.2.length:Int) > 20))=false) →(∃ n0,(loopP (fun (y1:Int) k2 => ((((decide (y1 < (p0.2.length:Int)))=true) →((zz0≤y1) ∧((y1 < (p0.2.length:Int)) ∧((((q0_Zc p0 y1)=false) →((q0_Zc p0 y1)=(q0_Zc p0 y1))) ∧((((q0_Zc p0 y1)=false) →((q0_Zc p0 y1)=(q0_Zc p0 y1))) ∧((((q0_Zc p0 y1)=false) →((q0_Zc p0 y1)=(q0_Zc p0 y1))) ∧(((q0_Zc p0 y1)=(q0_Zc p0 y1)) ∧((((cond (q0_Zc p0 y1) true (!(s_Z3 (p0.2.getD y1.toNat (zz0,zz0)).2 (-100000:Int) (100000:Int))))=true) →(K (y1,zz2))) ∧(((cond (q0_Zc p0 y1) true (!(s_Z3 (p0.2.getD y1.toNat (zz0,zz0)).2 (-100000:Int) (100000:Int))))=false) →((((decide (y1 > zz0))=true) →((decide (y1 > zz0))=(decide (y1 > zz0)))) ∧((((decide (y1 > zz0))=true) →((decide (y1 > zz0))=(decide (y1 > zz0)))) ∧((((decide (y1 > zz0))=true) →((decide (y1 > zz0))=(decide (y1 > zz0)))) ∧((((decide (y1 > zz0))=true) →((decide (y1 > zz0))=(decide (y1 > zz0)))) ∧((((decide (y1 > zz0))=true) →((decide (y1 > zz0))=(decide (y1 > zz0)))) ∧((((decide (y1 > zz0))=true) →(zz0≤(wi (y1 - zz1)))) ∧((((decide (y1 > zz0))=true) →((wi (y1 - zz1)) < (p0.2.length:Int))) ∧((((decide (y1 > zz0))=true) →((decide (y1 > zz0))=(decide (y1 > zz0)))) ∧((((decide (y1 > zz0))=true) →((decide (y1 > zz0))=(decide (y1 > zz0)))) ∧((((decide (y1 > zz0))=true) →((decide (y1 > zz0))=(decide (y1 > zz0)))) ∧((((decide (y1 > zz0))=true) →((decide (y1 > zz0))=(decide (y1 > zz0)))) ∧(((decide (y1 > zz0))=(decide (y1 > zz0))) ∧((((cond (decide (y1 > zz0)) (decide ((p0.2.getD y1.toNat (zz0,zz0)).1≤(p0.2.getD (Int.toNat (wi (y1 - zz1))) (zz0,zz0)).1)) false)=true) →(K (y1,(9:Int)))) ∧(((cond (decide (y1 > zz0)) (decide ((p0.2.getD y1.toNat (zz0,zz0)).1≤(p0.2.getD (Int.toNat (wi (y1 - zz1))) (zz0,zz0)).1)) false)=false) →(k2 (wi (y1 + zz1)))))))))))))))))))))))))) ∧(((decide (y1 < (p0.2.length:Int)))=false) →(K (zz0,zz0))))) n0 zz0))))))))
theorem w_Zc_eq (p0:(Int×(List (Int×Int)))) (K:(Int×Int)→Prop):tfn F_Zc A_Zc C_Zc P_Zc R_Zc p0 K = w_Zc p0 K := by kernel_rfl
def st_Zc_0 (p0:(Int×(List (Int×Int)))) (y3:Int):Int ⊕ (Int×Int) := (cond (decide (y3 < (p0.2.length:Int))) (cond (cond (!(s_Z3 (p0.2.getD y3.toNat (0,0)).1 (0:Int) (1000000000000:Int))) true (!(s_Z3 (p0.2.getD y3.toNat (0,0)).2 (-100000:Int) (100000:Int)))) (Sum.inr (y3,(2:Int))) (cond (cond (decide (y3 > 0)) (decide ((p0.2.getD y3.toNat (0,0)).1≤(p0.2.getD (Int.toNat (IntKind.i64.wrap (y3 - 1))) (0,0)).1)) false) (Sum.inr (y3,(9:Int))) (Sum.inl (IntKind.i64.wrap (y3 + 1))))) (Sum.inr (0,0)))
abbrev sp_Zc_0 (p0:(Int×(List (Int×Int)))) (y3:Int):List Prop := [(((decide (y3 < (p0.2.length:Int)))=true)→((0:Int)≤y3)),(((decide (y3 < (p0.2.length:Int)))=true)→(y3 < (p0.2.length:Int))),(((decide (y3 < (p0.2.length:Int)))=true)→(((cond (!(s_Z3 (p0.2.getD y3.toNat (0,0)).1 (0:Int) (1000000000000:Int))) true (!(s_Z3 (p0.2.getD y3.toNat (0,0)).2 (-100000:Int) (100000:Int))))=false)→(((decide (y3 > 0))=true)→((0:Int)≤(IntKind.i64.wrap (y3 - 1)))))),(((decide (y3 < (p0.2.length:Int)))=true)→(((cond (!(s_Z3 (p0.2.getD y3.toNat (0,0)).1 (0:Int) (1000000000000:Int))) true (!(s_Z3 (p0.2.getD y3.toNat (0,0)).2 (-100000:Int) (100000:Int))))=false)→(((decide (y3 > 0))=true)→((IntKind.i64.wrap (y3 - 1)) < (p0.2.length:Int)))))]
def s_Zc (p0:(Int×(List (Int×Int)))):(Int×Int) := (cond (!(s_Z3 p0.1 (-100000:Int) (100000:Int))) ((0:Int),(2:Int)) (cond (decide ((p0.2.length:Int) < 2)) ((0:Int),(10:Int)) (cond (decide ((p0.2.length:Int) > 20)) ((0:Int),(8:Int)) (lpv (0,0) (st_Zc_0 p0) (0:Int)))))
abbrev pre_Zc (p0:(Int×(List (Int×Int)))):List Prop := [(((!(s_Z3 p0.1 (-100000:Int) (100000:Int)))=false)→(((decide ((p0.2.length:Int) < 2))=false)→(((decide ((p0.2.length:Int) > 20))=false)→(OkL (st_Zc_0 p0) (sp_Zc_0 p0) (0:Int)))))]
theorem d_Zc (p0:(Int×(List (Int×Int)))) (K:(Int×Int)→Prop) (hp:∀ p∈pre_Zc p0,p) (h:K (s_Zc p0)):w_Zc p0 K := by
 unfold w_Zc
 unfold s_Zc at h
 obtain ⟨hp0,_⟩ := conj_of hp
 exact (br' h (fun e0 h => h)
  (fun e0 h => (br' h (fun e1 h => h)
  (fun e1 h => (br' h (fun e2 h => h)
  (fun e2 h => (loop_gen (hp0 e0 e1 e2) h (fun y3 k3 hp h => by
 unfold st_Zc_0 at h; obtain ⟨hp0,hp1,hp2,hp3,_⟩ := conj_of hp
 exact (br' h (fun e4 h => ⟨(hp0 e4),(hp1 e4),rf,rf,rf,rfl,(br' h (fun e5 h => h)
  (fun e5 h => ⟨rf,rf,rf,rf,rf,(hp2 e4 e5),(hp3 e4 e5),rf,rf,rf,rf,rfl,(br' h (fun e6 h => h)
  (fun e6 h => h))⟩))⟩)
  (fun e4 h => h))))))))))
/-- Whether a point is valid; what is wrong with one of a base station; with a base station. -/
def v_pval (x:gG):Bool := cond (s_Z3 x.1 0 1000000000000) (s_Z3 x.2 (-100000) 100000) false
def v_cb1 (l:gC) (i:Int) (x:gG):Option (Int×Int) := cond (v_pval x) (cond (cond (i == 0) true (decide (x.1 > (l.getD (i - 1).toNat (0,0)).1))) none (some (i,9))) (some (i,2))
def v_cb (b:Int×List (Int×Int)):Int×Int := cond (s_Z3 b.1 (-100000) 100000) (cond (decide ((b.2.length:Int) < 2)) (0,10) (cond (decide ((b.2.length:Int) > 20)) (0,8) (v_scan (v_cb1 b.2) (0,0) 0 b.2))) (0,2)
theorem v_pvalr {x:Int×Int}:cond (!(s_Z3 x.1 0 1000000000000)) true (!(s_Z3 x.2 (-100000) 100000)) = !(v_pval x) := by
 unfold v_pval
 cases s_Z3 x.1 0 1000000000000 <;> cases s_Z3 x.2 (-100000) 100000 <;> rfl
theorem l_Zc_0 (p0:Int×List (Int×Int)) (hl:p0.2.length≤20):OkL (st_Zc_0 p0) (sp_Zc_0 p0) 0∧lpv ((0,0):Int×Int) (st_Zc_0 p0) 0 = v_scan (v_cb1 p0.2) ((0,0):Int×Int) 0 p0.2 := by
 refine scan_is p0.2 (0,0) (v_cb1 p0.2) ((0,0):Int×Int) (lenOk_le hl (by decide)) ?_ ?_
 ·refine ⟨by simp only [sp_Zc_0,fM,decide_eq_true_eq]; simp,by simp [st_Zc_0]⟩
 ·intro j hj
  have hj' : (j:Int) < p0.2.length := by omega
  have hw := wrap_nat (show (j:Int)≤9223372036854775806 by omega)
  have hw2:IntKind.i64.wrap ((j:Int) - 1)=(j:Int) - 1 := wrap_id (by omega) (by omega)
  refine ⟨by simp only [sp_Zc_0,fM,decide_eq_true_eq,Int.toNat_natCast]; rw [hw2]; and_intros <;> first | (intro p hp; cases hp; done) | (intros; first | omega | (simp_all; done) | (simp_all; omega)),?_⟩
  simp only [st_Zc_0,hj',decide_true,Int.toNat_natCast,cond_true,hw,v_pvalr,hw2]
  unfold v_cb1
  cases v_pval (p0.2.getD j (0,0))
  ·rfl
  ·rcases int0 (j:Int) with ⟨hj0,_,z⟩ | ⟨hj0,_,z⟩ <;> rw [z]
   ·rw [decide_eq_false (show ¬ (j:Int) > 0 by omega)]; rfl
   ·rw [decide_eq_true (show (j:Int) > 0 by omega)]
    rcases dec0 (a := (p0.2.getD ((j:Int) - 1).toNat (0,0)).1) (b := (p0.2.getD j (0,0)).1) with ⟨_,c1,c2,c3,c4⟩ | ⟨_,c1,c2,c3,c4⟩ <;> simp only [c3,c4] <;> rfl
abbrev t_Zc (p0:Int×List (Int×Int)):Int×Int := v_cb p0
abbrev qre_Zc (_p0:Int×List (Int×Int)):List Prop := []
theorem pp_Zc (p0:Int×List (Int×Int)) (_hq:∀ p∈qre_Zc p0,p):∀ p∈pre_Zc p0,p := by
 simp only [pre_Zc,fM]
 exact ⟨fun _ _ h => (l_Zc_0 p0 (by have := of_decide_eq_false h; omega)).1,by simp⟩
theorem tt_Zc (p0:Int×List (Int×Int)) (_hq:∀ p∈qre_Zc p0,p):s_Zc p0 = t_Zc p0 := by
 unfold s_Zc t_Zc v_cb
 cases s_Z3 p0.1 (-100000) 100000
 ·rfl
 cases decide ((p0.2.length:Int) < 2)
 ·cases h:decide ((p0.2.length:Int) > 20)
  ·rw [(l_Zc_0 p0 (by have := of_decide_eq_false h; omega)).2]; rfl
  ·rfl
 ·rfl

abbrev con_Zc:Con := ⟨P_Zc,R_Zc,fun x => qre_Zc x,fun x => t_Zc x⟩
theorem ok_Zc:ConOk Tryz.prog 13 con_Zc := okG k_Zc e_Zc hC_Zc fun x hx => tf_of (w_Zc_eq x _) (d_Zc x _ (pp_Zc x hx) (tt_Zc x hx))
def C_Za:Cons := []
theorem hC_Za:ConsOk Tryz.prog C_Za := ConsOk.nil
def w_Za (p0:Int) (p1:Int) (p2:Int) (K:Bool→Prop):Prop := ((((decide (p1≤p0))=true) →((decide (p1≤p0))=(decide (p1≤p0)))) ∧((((decide (p1≤p0))=true) →((decide (p1≤p0))=(decide (p1≤p0)))) ∧(((decide (p1≤p0))=(decide (p1≤p0))) ∧(K (cond (decide (p1≤p0)) (decide (p0≤p2)) false)))))
theorem w_Za_eq (p0:Int) (p1:Int) (p2:Int) (K:Bool→Prop):tfn F_Za A_Za C_Za P_Za R_Za (p0,p1,p2) K = w_Za p0 p1 p2 K := by kernel_rfl
def s_Za (p0:Int) (p1:Int) (p2:Int):Bool := (cond (decide (p1≤p0)) (decide (p0≤p2)) false)
abbrev pre_Za (_p0:Int) (_p1:Int) (_p2:Int):List Prop := []
theorem d_Za (p0:Int) (p1:Int) (p2:Int) (K:Bool→Prop) (_hp:∀ p∈pre_Za p0 p1 p2,p) (h:K (s_Za p0 p1 p2)):w_Za p0 p1 p2 K := by
 unfold w_Za
 unfold s_Za at h
 exact ⟨rf,rf,rfl,h⟩
abbrev con_Za:Con := ⟨P_Za,R_Za,fun x => pre_Za x.1 x.2.1 x.2.2,fun x => s_Za x.1 x.2.1 x.2.2⟩
theorem ok_Za:ConOk Tryz.prog 83 con_Za := okG k_Za e_Za hC_Za fun x hx => tf_of (w_Za_eq x.1 x.2.1 x.2.2 _) (d_Za x.1 x.2.1 x.2.2 _ hx rfl)
theorem tx_withinG {n lo hi:Int}:s_Za n lo hi = s_Z3 n lo hi := rfl
def C_Z1h:Cons := [(83,[],con_Za)]
theorem hC_Z1h:ConsOk Tryz.prog C_Z1h := cC ok_Za <| ConsOk.nil
def w_Z1h (p0:Int) (p1:Int) (K:Bool→Prop):Prop := (K (s_Za p0 (IntKind.i64.wrap (zz0 - p1)) p1))
theorem w_Z1h_eq (p0:Int) (p1:Int) (K:Bool→Prop):tfn F_Z1h A_Z1h C_Z1h P_Z1h R_Z1h (p0,p1) K = w_Z1h p0 p1 K := by kernel_rfl
def s_Z1h (p0:Int) (p1:Int):Bool := (s_Za p0 (IntKind.i64.wrap ((0:Int) - p1)) p1)
abbrev pre_Z1h (_p0:Int) (_p1:Int):List Prop := []
theorem d_Z1h (p0:Int) (p1:Int) (K:Bool→Prop) (_hp:∀ p∈pre_Z1h p0 p1,p) (h:K (s_Z1h p0 p1)):w_Z1h p0 p1 K := by
 unfold w_Z1h
 unfold s_Z1h at h
 exact h
abbrev con_Z1h:Con := ⟨P_Z1h,R_Z1h,fun x => pre_Z1h x.1 x.2,fun x => s_Z1h x.1 x.2⟩
theorem ok_Z1h:ConOk Tryz.prog 82 con_Z1h := okG k_Z1h e_Z1h hC_Z1h fun x hx => tf_of (w_Z1h_eq x.1 x.2 _) (d_Z1h x.1 x.2 _ hx rfl)
def C_Z1e:Cons := [(82,[],con_Z1h)]
theorem hC_Z1e:ConsOk Tryz.prog C_Z1e := cC ok_Z1h <| ConsOk.nil
def w_Z1e (p0:Int) (K:Bool→Prop):Prop := (K (s_Za p0 (-100000:Int) (100000:Int)))
theorem w_Z1e_eq (p0:Int) (K:Bool→Prop):tfn F_Z1e A_Z1e C_Z1e P_Z1e R_Z1e p0 K = w_Z1e p0 K := by kernel_rfl
def s_Z1e (p0:Int):Bool := (s_Za p0 (-100000:Int) (100000:Int))
abbrev pre_Z1e (_p0:Int):List Prop := []
theorem d_Z1e (p0:Int) (K:Bool→Prop) (_hp:∀ p∈pre_Z1e p0,p) (h:K (s_Z1e p0)):w_Z1e p0 K := by
 unfold w_Z1e
 unfold s_Z1e at h
 exact h
abbrev con_Z1e:Con := ⟨P_Z1e,R_Z1e,fun x => pre_Z1e x,fun x => s_Z1e x⟩
theorem ok_Z1e:ConOk Tryz.prog 33 con_Z1e := okG k_Z1e e_Z1e hC_Z1e fun x hx => tf_of (w_Z1e_eq x _) (d_Z1e x _ hx rfl)
def C_Zh:Cons := []
theorem hC_Zh:ConsOk Tryz.prog C_Zh := ConsOk.nil
def w_Zh (p0:gF) (K:Int→Prop):Prop := (∃ n0,(loopP (fun (y1:Int) k2 => ((((decide (y1 < (p0.length:Int)))=true) →((zz0≤y1) ∧((y1 < (p0.length:Int)) ∧(((((p0.getD y1.toNat zz0) != 0)=true) →(K (p0.getD y1.toNat zz0))) ∧((((p0.getD y1.toNat zz0) != 0)=false) →(k2 (IntKind.i64.wrap (y1 + 1)))))))) ∧(((decide (y1 < (p0.length:Int)))=false) →(K zz0)))) n0 zz0))
theorem w_Zh_eq (p0:gF) (K:Int→Prop):tfn F_Zh A_Zh C_Zh P_Zh R_Zh p0 K = w_Zh p0 K := by kernel_rfl
def st_Zh_0 (p0:gF) (y0:Int):Int ⊕ Int := (cond (decide (y0 < (p0.length:Int))) (cond ((p0.getD y0.toNat (0:Int)) != 0) (Sum.inr (p0.getD y0.toNat (0:Int))) (Sum.inl (IntKind.i64.wrap (y0 + 1)))) (Sum.inr (0:Int)))
abbrev sp_Zh_0 (p0:gF) (y0:Int):List Prop := [(((decide (y0 < (p0.length:Int)))=true)→((0:Int)≤y0)),(((decide (y0 < (p0.length:Int)))=true)→(y0 < (p0.length:Int)))]
def s_Zh (p0:gF):Int := (lpv (0:Int) (st_Zh_0 p0) (0:Int))
abbrev pre_Zh (p0:gF):List Prop := [(OkL (st_Zh_0 p0) (sp_Zh_0 p0) (0:Int))]
theorem d_Zh (p0:gF) (K:Int→Prop) (hp:∀ p∈pre_Zh p0,p) (h:K (s_Zh p0)):w_Zh p0 K := by
 unfold w_Zh
 unfold s_Zh at h
 obtain ⟨hp0,_⟩ := conj_of hp
 exact (loop_gen (hp0) h (fun y0 k0 hp h => by
 unfold st_Zh_0 at h; obtain ⟨hp0,hp1,_⟩ := conj_of hp
 exact (br' h (fun e1 h => ⟨(hp0 e1),(hp1 e1),(br' h (fun e2 h => h)
  (fun e2 h => h))⟩)
  (fun e1 h => h))))
theorem l_Zh_0 (p0:gF) (hl:lenOk p0):OkL (st_Zh_0 p0) (sp_Zh_0 p0) 0∧lpv (0:Int) (st_Zh_0 p0) 0 = v_scan (fun _ x => cond (x != 0) (some x) none) (0:Int) 0 p0 := by
 refine scan_is p0 0 (fun _ x => cond (x != 0) (some x) none) (0:Int) hl ?_ ?_
 ·refine ⟨by simp only [sp_Zh_0,fM,decide_eq_true_eq]; simp,by simp [st_Zh_0]⟩
 ·intro j hj
  have hj' : (j:Int) < p0.length := by omega
  refine ⟨by simp only [sp_Zh_0,fM,decide_eq_true_eq,Int.toNat_natCast]; simp <;> omega,?_⟩
  simp only [st_Zh_0,hj',decide_true,Int.toNat_natCast,cond_true,wrap_nat (show (j:Int)≤9223372036854775806 by unfold lenOk at hl; omega)]
  generalize p0.getD j 0 = x
  cases (x != 0) <;> rfl
abbrev t_Zh (p0:gF):Int := v_first p0
abbrev qre_Zh (p0:gF):List Prop := [lenOk p0]
theorem pp_Zh (p0:gF) (hq:∀ p∈qre_Zh p0,p):∀ p∈pre_Zh p0,p := by
 simp only [pre_Zh,fM]
 exact ⟨(l_Zh_0 p0 (conj_of hq).1).1,by simp⟩
theorem tt_Zh (p0:gF) (hq:∀ p∈qre_Zh p0,p):s_Zh p0 = t_Zh p0 := by
 exact (l_Zh_0 p0 (conj_of hq).1).2.trans (v_first_scan p0 0)

abbrev con_Zh:Con := ⟨P_Zh,R_Zh,fun x => qre_Zh x,fun x => t_Zh x⟩
theorem ok_Zh:ConOk Tryz.prog 31 con_Zh := okG k_Zh e_Zh hC_Zh fun x hx => tf_of (w_Zh_eq x _) (d_Zh x _ (pp_Zh x hx) (tt_Zh x hx))
def C_Z6:Cons := []
theorem hC_Z6:ConsOk Tryz.prog C_Z6 := ConsOk.nil
def w_Z6 (p0:Bool) (p1:Int) (K:Int→Prop):Prop := (((p0 = true) →(K zz0)) ∧((p0 = false) →(K p1)))
theorem w_Z6_eq (p0:Bool) (p1:Int) (K:Int→Prop):tfn F_Z6 A_Z6 C_Z6 P_Z6 R_Z6 (p0,p1) K = w_Z6 p0 p1 K := by kernel_rfl
def s_Z6 (p0:Bool) (p1:Int):Int := (cond p0 (0:Int) p1)
abbrev pre_Z6 (_p0:Bool) (_p1:Int):List Prop := []
theorem d_Z6 (p0:Bool) (p1:Int) (K:Int→Prop) (_hp:∀ p∈pre_Z6 p0 p1,p) (h:K (s_Z6 p0 p1)):w_Z6 p0 p1 K := by
 unfold w_Z6
 unfold s_Z6 at h
 exact (br' h (fun e0 h => h)
  (fun e0 h => h))
abbrev con_Z6:Con := ⟨P_Z6,R_Z6,fun x => pre_Z6 x.1 x.2,fun x => s_Z6 x.1 x.2⟩
theorem ok_Z6:ConOk Tryz.prog 32 con_Z6 := okG k_Z6 e_Z6 hC_Z6 fun x hx => tf_of (w_Z6_eq x.1 x.2 _) (d_Z6 x.1 x.2 _ hx rfl)
theorem tx_unless {a:Bool} {x:Int}:s_Z6 a x = cond a 0 x := by cases a <;> rfl
structure v_ser (l:gF):Prop where
 ne:0 < l.length
 len:l.length≤40
 ok:∀ x∈l,-100000≤x∧x≤100000
theorem tx_first3 {x y z:Int}:v_first [x,y,z]=cond (x != 0) x (cond (y != 0) y z) := by
 simp only [v_first]
 cases h:(x != 0)
 ·cases h2:(y != 0)
  ·cases h3:(z != 0)
   ·simp at h3; subst h3; rfl
   ·rfl
  ·rfl
 ·rfl
def C_Z1n:Cons := [(42,[],con_Z3)]
theorem hC_Z1n:ConsOk Tryz.prog C_Z1n := cC ok_Z3 <| ConsOk.nil
def w_Z1n (p0:Int) (K:Bool→Prop):Prop := (K (s_Z3 p0 (-10:Int) (10:Int)))
theorem w_Z1n_eq (p0:Int) (K:Bool→Prop):tfn F_Z1n A_Z1n C_Z1n P_Z1n R_Z1n p0 K = w_Z1n p0 K := by kernel_rfl
def s_Z1n (p0:Int):Bool := (s_Z3 p0 (-10:Int) (10:Int))
abbrev pre_Z1n (_p0:Int):List Prop := []
theorem d_Z1n (p0:Int) (K:Bool→Prop) (_hp:∀ p∈pre_Z1n p0,p) (h:K (s_Z1n p0)):w_Z1n p0 K := by
 unfold w_Z1n
 unfold s_Z1n at h
 exact h
abbrev con_Z1n:Con := ⟨P_Z1n,R_Z1n,fun x => pre_Z1n x,fun x => s_Z1n x⟩
theorem ok_Z1n:ConOk Tryz.prog 91 con_Z1n := okG k_Z1n e_Z1n hC_Z1n fun x hx => tf_of (w_Z1n_eq x _) (d_Z1n x _ hx rfl)
def C_Z4:Cons := [(41,[],con_Z1k),(91,[],con_Z1n),(40,[],con_Z1j)]
theorem hC_Z4:ConsOk Tryz.prog C_Z4 := cC ok_Z1k <| cC ok_Z1n <| cC ok_Z1j <| ConsOk.nil
abbrev q3_Z4 (p0:(List (Int×(Int×(Int×(Int×Int)))))) (y1:Int) := (!(s_Z3 (p0.getD y1.toNat (zz0,(zz0,(zz0,(zz0,zz0))))).1 zz0 (1000000000000:Int)))
abbrev q1_Z4 (p0:(List (Int×(Int×(Int×(Int×Int)))))) (y1:Int) := (cond (q3_Z4 p0 y1) true (!(s_Z3 (p0.getD y1.toNat (zz0,(zz0,(zz0,(zz0,zz0))))).2.1 (-10:Int) (10:Int))))
abbrev q0_Z4 (p0:(List (Int×(Int×(Int×(Int×Int)))))) (y1:Int) := (cond (q1_Z4 p0 y1) true (!(s_Z3 (p0.getD y1.toNat (zz0,(zz0,(zz0,(zz0,zz0))))).2.2.1 (-10:Int) (10:Int))))
abbrev q2_Z4 (p0:(List (Int×(Int×(Int×(Int×Int)))))) (y1:Int) := (cond (q0_Z4 p0 y1) true (!(s_Z3 (p0.getD y1.toNat (zz0,(zz0,(zz0,(zz0,zz0))))).2.2.2.1 (-10:Int) (10:Int))))
def w_Z4 (p0:(List (Int×(Int×(Int×(Int×Int)))))) (K:(Int×Int)→Prop):Prop := (((((p0.length:Int) == zz0)=true) →(K (zz0,(10:Int)))) ∧((((p0.length:Int) == zz0)=false) →((((decide ((p0.length:Int) > 20))=true) →(K (zz0,(8:Int)))) ∧(((decide ((p0.length:Int) > 20))=false) →(∃ n0,(loopP (fun (y1:Int) k2 => ((((decide (y1 < (p0.length:Int)))=true) →((zz0≤y1) ∧((y1 < (p0.length:Int)) ∧((((q3_Z4 p0 y1)=false) →((q3_Z4 p0 y1)=(q3_Z4 p0 y1))) ∧((((q3_Z4 p0 y1)=false) →((q3_Z4 p0 y1)=(q3_Z4 p0 y1))) ∧((((q3_Z4 p0 y1)=false) →((q3_Z4 p0 y1)=(q3_Z4 p0 y1))) ∧(((q3_Z4 p0 y1)=(q3_Z4 p0 y1)) ∧((((q1_Z4 p0 y1)=false) →((q1_Z4 p0 y1)=(q1_Z4 p0 y1))) ∧((((q1_Z4 p0 y1)=false) →((q1_Z4 p0 y1)=(q1_Z4 p0 y1))) ∧((((q1_Z4 p0 y1)=false) →((q1_Z4 p0 y1)=(q1_Z4 p0 y1))) ∧(((q1_Z4 p0 y1)=(q1_Z4 p0 y1)) ∧((((q0_Z4 p0 y1)=false) →((q0_Z4 p0 y1)=(q0_Z4 p0 y1))) ∧((((q0_Z4 p0 y1)=false) →((q0_Z4 p0 y1)=(q0_Z4 p0 y1))) ∧((((q0_Z4 p0 y1)=false) →((q0_Z4 p0 y1)=(q0_Z4 p0 y1))) ∧(((q0_Z4 p0 y1)=(q0_Z4 p0 y1)) ∧((((q2_Z4 p0 y1)=false) →((q2_Z4 p0 y1)=(q2_Z4 p0 y1))) ∧((((q2_Z4 p0 y1)=false) →((q2_Z4 p0 y1)=(q2_Z4 p0 y1))) ∧((((q2_Z4 p0 y1)=false) →((q2_Z4 p0 y1)=(q2_Z4 p0 y1))) ∧(((q2_Z4 p0 y1)=(q2_Z4 p0 y1)) ∧((((cond (q2_Z4 p0 y1) true (!(s_Z3 (p0.getD y1.toNat (zz0,(zz0,(zz0,(zz0,zz0))))).2.2.2.2 (-100000:Int) (100000:Int))))=true) →(K (y1,zz2))) ∧(((cond (q2_Z4 p0 y1) true (!(s_Z3 (p0.getD y1.toNat (zz0,(zz0,(zz0,(zz0,zz0))))).2.2.2.2 (-100000:Int) (100000:Int))))=false) →((((decide (y1 > zz0))=true) →((decide (y1 > zz0))=(decide (y1 > zz0)))) ∧((((decide (y1 > zz0))=true) →((decide (y1 > zz0))=(decide (y1 > zz0)))) ∧((((decide (y1 > zz0))=true) →((decide (y1 > zz0))=(decide (y1 > zz0)))) ∧((((decide (y1 > zz0))=true) →((decide (y1 > zz0))=(decide (y1 > zz0)))) ∧((((decide (y1 > zz0))=true) →(zz0≤(wi (y1 - zz1)))) ∧((((decide (y1 > zz0))=true) →((wi (y1 - zz1)) < (p0.length:Int))) ∧((((decide (y1 > zz0))=true) →((decide (y1 > zz0))=(decide (y1 > zz0)))) ∧((((decide (y1 > zz0))=true) →((decide (y1 > zz0))=(decide (y1 > zz0)))) ∧((((decide (y1 > zz0))=true) →((decide (y1 > zz0))=(decide (y1 > zz0)))) ∧((((decide (y1 > zz0))=true) →((decide (y1 > zz0))=(decide (y1 > zz0)))) ∧(((decide (y1 > zz0))=(decide (y1 > zz0))) ∧((((cond (decide (y1 > zz0)) (decide ((p0.getD y1.toNat (zz0,(zz0,(zz0,(zz0,zz0))))).1≤(p0.getD (Int.toNat (wi (y1 - zz1))) (zz0,(zz0,(zz0,(zz0,zz0))))).1)) false)=true) →(K (y1,(9:Int)))) ∧(((cond (decide (y1 > zz0)) (decide ((p0.getD y1.toNat (zz0,(zz0,(zz0,(zz0,zz0))))).1≤(p0.getD (Int.toNat (wi (y1 - zz1))) (zz0,(zz0,(zz0,(zz0,zz0))))).1)) false)=false) →(k2 (wi (y1 + zz1))))))))))))))))))))))))))))))))))))) ∧(((decide (y1 < (p0.length:Int)))=false) →(K (zz0,zz0))))) n0 zz0))))))
theorem w_Z4_eq (p0:(List (Int×(Int×(Int×(Int×Int)))))) (K:(Int×Int)→Prop):tfn F_Z4 A_Z4 C_Z4 P_Z4 R_Z4 p0 K = w_Z4 p0 K := by kernel_rfl
def st_Z4_0 (p0:(List (Int×(Int×(Int×(Int×Int)))))) (y2:Int):Int ⊕ (Int×Int) := (cond (decide (y2 < (p0.length:Int))) (cond (cond (cond (cond (cond (!(s_Z3 (p0.getD y2.toNat ((0:Int),((0:Int),((0:Int),(0,0))))).1 (0:Int) (1000000000000:Int))) true (!(s_Z3 (p0.getD y2.toNat ((0:Int),((0:Int),((0:Int),(0,0))))).2.1 (-10:Int) (10:Int)))) true (!(s_Z3 (p0.getD y2.toNat ((0:Int),((0:Int),((0:Int),(0,0))))).2.2.1 (-10:Int) (10:Int)))) true (!(s_Z3 (p0.getD y2.toNat ((0:Int),((0:Int),((0:Int),(0,0))))).2.2.2.1 (-10:Int) (10:Int)))) true (!(s_Z3 (p0.getD y2.toNat ((0:Int),((0:Int),((0:Int),(0,0))))).2.2.2.2 (-100000:Int) (100000:Int)))) (Sum.inr (y2,(2:Int))) (cond (cond (decide (y2 > 0)) (decide ((p0.getD y2.toNat ((0:Int),((0:Int),((0:Int),(0,0))))).1≤(p0.getD (Int.toNat (IntKind.i64.wrap (y2 - 1))) ((0:Int),((0:Int),((0:Int),(0,0))))).1)) false) (Sum.inr (y2,(9:Int))) (Sum.inl (IntKind.i64.wrap (y2 + 1))))) (Sum.inr (0,0)))
abbrev sp_Z4_0 (p0:(List (Int×(Int×(Int×(Int×Int)))))) (y2:Int):List Prop := [(((decide (y2 < (p0.length:Int)))=true)→((0:Int)≤y2)),(((decide (y2 < (p0.length:Int)))=true)→(y2 < (p0.length:Int))),(((decide (y2 < (p0.length:Int)))=true)→(((cond (cond (cond (cond (!(s_Z3 (p0.getD y2.toNat ((0:Int),((0:Int),((0:Int),(0,0))))).1 (0:Int) (1000000000000:Int))) true (!(s_Z3 (p0.getD y2.toNat ((0:Int),((0:Int),((0:Int),(0,0))))).2.1 (-10:Int) (10:Int)))) true (!(s_Z3 (p0.getD y2.toNat ((0:Int),((0:Int),((0:Int),(0,0))))).2.2.1 (-10:Int) (10:Int)))) true (!(s_Z3 (p0.getD y2.toNat ((0:Int),((0:Int),((0:Int),(0,0))))).2.2.2.1 (-10:Int) (10:Int)))) true (!(s_Z3 (p0.getD y2.toNat ((0:Int),((0:Int),((0:Int),(0,0))))).2.2.2.2 (-100000:Int) (100000:Int))))=false)→(((decide (y2 > 0))=true)→((0:Int)≤(IntKind.i64.wrap (y2 - 1)))))),(((decide (y2 < (p0.length:Int)))=true)→(((cond (cond (cond (cond (!(s_Z3 (p0.getD y2.toNat ((0:Int),((0:Int),((0:Int),(0,0))))).1 (0:Int) (1000000000000:Int))) true (!(s_Z3 (p0.getD y2.toNat ((0:Int),((0:Int),((0:Int),(0,0))))).2.1 (-10:Int) (10:Int)))) true (!(s_Z3 (p0.getD y2.toNat ((0:Int),((0:Int),((0:Int),(0,0))))).2.2.1 (-10:Int) (10:Int)))) true (!(s_Z3 (p0.getD y2.toNat ((0:Int),((0:Int),((0:Int),(0,0))))).2.2.2.1 (-10:Int) (10:Int)))) true (!(s_Z3 (p0.getD y2.toNat ((0:Int),((0:Int),((0:Int),(0,0))))).2.2.2.2 (-100000:Int) (100000:Int))))=false)→(((decide (y2 > 0))=true)→((IntKind.i64.wrap (y2 - 1)) < (p0.length:Int)))))]
def s_Z4 (p0:(List (Int×(Int×(Int×(Int×Int)))))):(Int×Int) := (cond ((p0.length:Int) == 0) ((0:Int),(10:Int)) (cond (decide ((p0.length:Int) > 20)) ((0:Int),(8:Int)) (lpv (0,0) (st_Z4_0 p0) (0:Int))))
abbrev pre_Z4 (p0:(List (Int×(Int×(Int×(Int×Int)))))):List Prop := [((((p0.length:Int) == 0)=false)→(((decide ((p0.length:Int) > 20))=false)→(OkL (st_Z4_0 p0) (sp_Z4_0 p0) (0:Int))))]
theorem d_Z4 (p0:(List (Int×(Int×(Int×(Int×Int)))))) (K:(Int×Int)→Prop) (hp:∀ p∈pre_Z4 p0,p) (h:K (s_Z4 p0)):w_Z4 p0 K := by
 unfold w_Z4
 unfold s_Z4 at h
 obtain ⟨hp0,_⟩ := conj_of hp
 exact (br' h (fun e0 h => h)
  (fun e0 h => (br' h (fun e1 h => h)
  (fun e1 h => (loop_gen (hp0 e0 e1) h (fun y2 k2 hp h => by
 unfold st_Z4_0 at h; obtain ⟨hp0,hp1,hp2,hp3,_⟩ := conj_of hp
 exact (br' h (fun e3 h => ⟨(hp0 e3),(hp1 e3),rf,rf,rf,rfl,rf,rf,rf,rfl,rf,rf,rf,rfl,rf,rf,rf,rfl,(br' h (fun e4 h => h)
  (fun e4 h => ⟨rf,rf,rf,rf,(hp2 e3 e4),(hp3 e3 e4),rf,rf,rf,rf,rfl,(br' h (fun e5 h => h)
  (fun e5 h => h))⟩))⟩)
  (fun e3 h => h))))))))
/-- Whether a sample is valid; what is wrong with one of samples; with samples. -/
def v_sval (x:Int×Int×Int×Int×Int):Bool := cond (s_Z3 x.1 0 1000000000000) (cond (s_Z3 x.2.1 (-10) 10) (cond (s_Z3 x.2.2.1 (-10) 10) (cond (s_Z3 x.2.2.2.1 (-10) 10) (s_Z3 x.2.2.2.2 (-100000) 100000) false) false) false) false
def v_cs1 (l:List (Int×Int×Int×Int×Int)) (i:Int) (x:Int×Int×Int×Int×Int):Option (Int×Int) := cond (v_sval x) (cond (cond (i == 0) true (decide (x.1 > (l.getD (i - 1).toNat (0,0,0,0,0)).1))) none (some (i,9))) (some (i,2))
def v_cs (l:List (Int×Int×Int×Int×Int)):Int×Int := cond ((l.length:Int) == 0) (0,10) (cond (decide ((l.length:Int) > 20)) (0,8) (v_scan (v_cs1 l) (0,0) 0 l))
theorem v_svalr {x:Int×Int×Int×Int×Int}:cond (cond (cond (cond (!(s_Z3 x.1 0 1000000000000)) true (!(s_Z3 x.2.1 (-10) 10))) true (!(s_Z3 x.2.2.1 (-10) 10))) true (!(s_Z3 x.2.2.2.1 (-10) 10))) true (!(s_Z3 x.2.2.2.2 (-100000) 100000)) = !(v_sval x) := by
 unfold v_sval
 cases s_Z3 x.1 0 1000000000000 <;> cases s_Z3 x.2.1 (-10) 10 <;> cases s_Z3 x.2.2.1 (-10) 10 <;> cases s_Z3 x.2.2.2.1 (-10) 10 <;> cases s_Z3 x.2.2.2.2 (-100000) 100000 <;> rfl
theorem l_Z4_0 (p0:List (Int×Int×Int×Int×Int)) (hl:p0.length≤20):OkL (st_Z4_0 p0) (sp_Z4_0 p0) 0∧lpv ((0,0):Int×Int) (st_Z4_0 p0) 0 = v_scan (v_cs1 p0) ((0,0):Int×Int) 0 p0 := by
 refine scan_is p0 (0,0,0,0,0) (v_cs1 p0) ((0,0):Int×Int) (lenOk_le hl (by decide)) ?_ ?_
 ·refine ⟨by simp only [sp_Z4_0,fM,decide_eq_true_eq]; simp,by simp [st_Z4_0]⟩
 ·intro j hj
  have hj' : (j:Int) < p0.length := by omega
  have hw := wrap_nat (show (j:Int)≤9223372036854775806 by omega)
  have hw2:IntKind.i64.wrap ((j:Int) - 1)=(j:Int) - 1 := wrap_id (by omega) (by omega)
  refine ⟨by simp only [sp_Z4_0,fM,decide_eq_true_eq,Int.toNat_natCast]; rw [hw2]; and_intros <;> first | (intro p hp; cases hp; done) | (intros; first | omega | (simp_all; done) | (simp_all; omega)),?_⟩
  simp only [st_Z4_0,hj',decide_true,Int.toNat_natCast,cond_true,hw,s_Z1k,s_Z1n,s_Z1j,v_svalr,hw2]
  unfold v_cs1
  cases v_sval (p0.getD j (0,0,0,0,0))
  ·rfl
  ·rcases int0 (j:Int) with ⟨hj0,_,z⟩ | ⟨hj0,_,z⟩ <;> rw [z]
   ·rw [decide_eq_false (show ¬ (j:Int) > 0 by omega)]; rfl
   ·rw [decide_eq_true (show (j:Int) > 0 by omega)]
    rcases dec0 (a := (p0.getD ((j:Int) - 1).toNat (0,0,0,0,0)).1) (b := (p0.getD j (0,0,0,0,0)).1) with ⟨_,c1,c2,c3,c4⟩ | ⟨_,c1,c2,c3,c4⟩ <;> simp only [c3,c4] <;> rfl
abbrev t_Z4 (p0:List (Int×Int×Int×Int×Int)):Int×Int := v_cs p0
abbrev qre_Z4 (_p0:List (Int×Int×Int×Int×Int)):List Prop := []
theorem pp_Z4 (p0:List (Int×Int×Int×Int×Int)) (_hq:∀ p∈qre_Z4 p0,p):∀ p∈pre_Z4 p0,p := by
 simp only [pre_Z4,fM]
 exact ⟨fun _ h => (l_Z4_0 p0 (by have := of_decide_eq_false h; omega)).1,by simp⟩
theorem tt_Z4 (p0:List (Int×Int×Int×Int×Int)) (_hq:∀ p∈qre_Z4 p0,p):s_Z4 p0 = t_Z4 p0 := by
 unfold s_Z4 t_Z4 v_cs
 cases h:decide ((p0.length:Int) > 20)
 ·rw [(l_Z4_0 p0 (by have := of_decide_eq_false h; omega)).2]
 ·rfl

abbrev con_Z4:Con := ⟨P_Z4,R_Z4,fun x => qre_Z4 x,fun x => t_Z4 x⟩
theorem ok_Z4:ConOk Tryz.prog 45 con_Z4 := okG k_Z4 e_Z4 hC_Z4 fun x hx => tf_of (w_Z4_eq x _) (d_Z4 x _ (pp_Z4 x hx) (tt_Z4 x hx))
def C_Z1f:Cons := [(83,[],con_Za)]
theorem hC_Z1f:ConsOk Tryz.prog C_Z1f := cC ok_Za <| ConsOk.nil
def w_Z1f (p0:Int) (K:Bool→Prop):Prop := (K (s_Za p0 zz0 (1000000000000:Int)))
theorem w_Z1f_eq (p0:Int) (K:Bool→Prop):tfn F_Z1f A_Z1f C_Z1f P_Z1f R_Z1f p0 K = w_Z1f p0 K := by kernel_rfl
def s_Z1f (p0:Int):Bool := (s_Za p0 (0:Int) (1000000000000:Int))
abbrev pre_Z1f (_p0:Int):List Prop := []
theorem d_Z1f (p0:Int) (K:Bool→Prop) (_hp:∀ p∈pre_Z1f p0,p) (h:K (s_Z1f p0)):w_Z1f p0 K := by
 unfold w_Z1f
 unfold s_Z1f at h
 exact h
abbrev con_Z1f:Con := ⟨P_Z1f,R_Z1f,fun x => pre_Z1f x,fun x => s_Z1f x⟩
theorem ok_Z1f:ConOk Tryz.prog 34 con_Z1f := okG k_Z1f e_Z1f hC_Z1f fun x hx => tf_of (w_Z1f_eq x _) (d_Z1f x _ hx rfl)
def C_Z1l:Cons := [(82,[],con_Z1h)]
theorem hC_Z1l:ConsOk Tryz.prog C_Z1l := cC ok_Z1h <| ConsOk.nil
def w_Z1l (p0:Int) (K:Bool→Prop):Prop := (K (s_Za p0 (-10:Int) (10:Int)))
theorem w_Z1l_eq (p0:Int) (K:Bool→Prop):tfn F_Z1l A_Z1l C_Z1l P_Z1l R_Z1l p0 K = w_Z1l p0 K := by kernel_rfl
def s_Z1l (p0:Int):Bool := (s_Za p0 (-10:Int) (10:Int))
abbrev pre_Z1l (_p0:Int):List Prop := []
theorem d_Z1l (p0:Int) (K:Bool→Prop) (_hp:∀ p∈pre_Z1l p0,p) (h:K (s_Z1l p0)):w_Z1l p0 K := by
 unfold w_Z1l
 unfold s_Z1l at h
 exact h
abbrev con_Z1l:Con := ⟨P_Z1l,R_Z1l,fun x => pre_Z1l x,fun x => s_Z1l x⟩
theorem ok_Z1l:ConOk Tryz.prog 114 con_Z1l := okG k_Z1l e_Z1l hC_Z1l fun x hx => tf_of (w_Z1l_eq x _) (d_Z1l x _ hx rfl)
def C_Z2:Cons := [(32,[],con_Z6),(31,[],con_Zh),(34,[],con_Z1f),(114,[],con_Z1l),(33,[],con_Z1e)]
theorem hC_Z2:ConsOk Tryz.prog C_Z2 := cC ok_Z6 <| cC ok_Zh <| cC ok_Z1f <| cC ok_Z1l <| cC ok_Z1e <| ConsOk.nil
abbrev q1_Z2 (p0:(List (Int×(Int×(Int×(Int×Int)))))) (y1:gG) := (p0.getD y1.1.toNat (zz0,(zz0,(zz0,(zz0,zz0)))))
abbrev q6_Z2 (p0:(List (Int×(Int×(Int×(Int×Int)))))) (y1:gG) := (s_Za (q1_Z2 p0 y1).1 zz0 (1000000000000:Int))
abbrev q2_Z2 (p0:(List (Int×(Int×(Int×(Int×Int)))))) (y1:gG) := (cond (q6_Z2 p0 y1) (s_Za (q1_Z2 p0 y1).2.1 (-10:Int) (10:Int)) false)
abbrev q0_Z2 (p0:(List (Int×(Int×(Int×(Int×Int)))))) (y1:gG) := (cond (q2_Z2 p0 y1) (s_Za (q1_Z2 p0 y1).2.2.1 (-10:Int) (10:Int)) false)
abbrev q4_Z2 (p0:(List (Int×(Int×(Int×(Int×Int)))))) (y1:gG) := (cond (q0_Z2 p0 y1) (s_Za (q1_Z2 p0 y1).2.2.2.1 (-10:Int) (10:Int)) false)
abbrev q3_Z2 (p0:(List (Int×(Int×(Int×(Int×Int)))))) (y1:gG) := ((s_Z6 (cond (q4_Z2 p0 y1) (s_Za (q1_Z2 p0 y1).2.2.2.2 (-100000:Int) (100000:Int)) false) zz2) :: ((s_Z6 (decide ((q1_Z2 p0 y1).1 > y1.2)) (9:Int)) :: ([]:List Int)))
abbrev q5_Z2 (p0:(List (Int×(Int×(Int×(Int×Int)))))) := ((s_Z6 (decide ((p0.length:Int) > zz0)) (10:Int)) :: ((s_Z6 (decide ((p0.length:Int)≤20)) (8:Int)) :: ([]:List Int)))
def w_Z2 (p0:(List (Int×(Int×(Int×(Int×Int)))))) (K:(Int×Int)→Prop):Prop := ((lenOk (q5_Z2 p0)) ∧(((((v_first (q5_Z2 p0)) != zz0)=true) →(K (zz0,(v_first (q5_Z2 p0))))) ∧((((v_first (q5_Z2 p0)) != zz0)=false) →(∃ n0,(loopP (fun (y1:gG) k2 => ((((decide (y1.1 < (p0.length:Int)))=true) →((zz0≤y1.1) ∧((y1.1 < (p0.length:Int)) ∧((((q6_Z2 p0 y1)=true) →((q6_Z2 p0 y1)=(q6_Z2 p0 y1))) ∧((((q6_Z2 p0 y1)=true) →((q6_Z2 p0 y1)=(q6_Z2 p0 y1))) ∧((((q6_Z2 p0 y1)=true) →((q6_Z2 p0 y1)=(q6_Z2 p0 y1))) ∧(((q6_Z2 p0 y1)=(q6_Z2 p0 y1)) ∧((((q2_Z2 p0 y1)=true) →((q2_Z2 p0 y1)=(q2_Z2 p0 y1))) ∧((((q2_Z2 p0 y1)=true) →((q2_Z2 p0 y1)=(q2_Z2 p0 y1))) ∧((((q2_Z2 p0 y1)=true) →((q2_Z2 p0 y1)=(q2_Z2 p0 y1))) ∧(((q2_Z2 p0 y1)=(q2_Z2 p0 y1)) ∧((((q0_Z2 p0 y1)=true) →((q0_Z2 p0 y1)=(q0_Z2 p0 y1))) ∧((((q0_Z2 p0 y1)=true) →((q0_Z2 p0 y1)=(q0_Z2 p0 y1))) ∧((((q0_Z2 p0 y1)=true) →((q0_Z2 p0 y1)=(q0_Z2 p0 y1))) ∧(((q0_Z2 p0 y1)=(q0_Z2 p0 y1)) ∧((((q4_Z2 p0 y1)=true) →((q4_Z2 p0 y1)=(q4_Z2 p0 y1))) ∧((((q4_Z2 p0 y1)=true) →((q4_Z2 p0 y1)=(q4_Z2 p0 y1))) ∧(((q4_Z2 p0 y1)=(q4_Z2 p0 y1)) ∧((lenOk (q3_Z2 p0 y1)) ∧(((((v_first (q3_Z2 p0 y1)) != zz0)=true) →(K (y1.1,(v_first (q3_Z2 p0 y1))))) ∧((((v_first (q3_Z2 p0 y1)) != zz0)=false) →(k2 ((wi (y1.1 + zz1)),(q1_Z2 p0 y1).1))))))))))))))))))))))) ∧(((decide (y1.1 < (p0.length:Int)))=false) →(K (zz0,zz0))))) n0 (zz0,(-1:Int)))))))
theorem w_Z2_eq (p0:(List (Int×(Int×(Int×(Int×Int)))))) (K:(Int×Int)→Prop):tfn F_Z2 A_Z2 C_Z2 P_Z2 R_Z2 p0 K = w_Z2 p0 K := by kernel_rfl
def st_Z2_0 (p0:(List (Int×(Int×(Int×(Int×Int)))))) (y1:gG):(Int×Int) ⊕ (Int×Int) := (cond (decide (y1.1 < (p0.length:Int))) (cond ((v_first ((s_Z6 (cond (cond (cond (cond (s_Za (p0.getD y1.1.toNat ((0:Int),((0:Int),((0:Int),(0,0))))).1 (0:Int) (1000000000000:Int)) (s_Za (p0.getD y1.1.toNat ((0:Int),((0:Int),((0:Int),(0,0))))).2.1 (-10:Int) (10:Int)) false) (s_Za (p0.getD y1.1.toNat ((0:Int),((0:Int),((0:Int),(0,0))))).2.2.1 (-10:Int) (10:Int)) false) (s_Za (p0.getD y1.1.toNat ((0:Int),((0:Int),((0:Int),(0,0))))).2.2.2.1 (-10:Int) (10:Int)) false) (s_Za (p0.getD y1.1.toNat ((0:Int),((0:Int),((0:Int),(0,0))))).2.2.2.2 (-100000:Int) (100000:Int)) false) (2:Int)) :: ((s_Z6 (decide ((p0.getD y1.1.toNat ((0:Int),((0:Int),((0:Int),(0,0))))).1 > y1.2)) (9:Int)) :: ([]:List Int)))) != 0) (Sum.inr (y1.1,(v_first ((s_Z6 (cond (cond (cond (cond (s_Za (p0.getD y1.1.toNat ((0:Int),((0:Int),((0:Int),(0,0))))).1 (0:Int) (1000000000000:Int)) (s_Za (p0.getD y1.1.toNat ((0:Int),((0:Int),((0:Int),(0,0))))).2.1 (-10:Int) (10:Int)) false) (s_Za (p0.getD y1.1.toNat ((0:Int),((0:Int),((0:Int),(0,0))))).2.2.1 (-10:Int) (10:Int)) false) (s_Za (p0.getD y1.1.toNat ((0:Int),((0:Int),((0:Int),(0,0))))).2.2.2.1 (-10:Int) (10:Int)) false) (s_Za (p0.getD y1.1.toNat ((0:Int),((0:Int),((0:Int),(0,0))))).2.2.2.2 (-100000:Int) (100000:Int)) false) (2:Int)) :: ((s_Z6 (decide ((p0.getD y1.1.toNat ((0:Int),((0:Int),((0:Int),(0,0))))).1 > y1.2)) (9:Int)) :: ([]:List Int)))))) (Sum.inl ((IntKind.i64.wrap (y1.1 + 1)),(p0.getD y1.1.toNat ((0:Int),((0:Int),((0:Int),(0,0))))).1))) (Sum.inr (0,0)))
abbrev sp_Z2_0 (p0:(List (Int×(Int×(Int×(Int×Int)))))) (y1:gG):List Prop := [(((decide (y1.1 < (p0.length:Int)))=true)→((0:Int)≤y1.1)),(((decide (y1.1 < (p0.length:Int)))=true)→(y1.1 < (p0.length:Int)))]
def s_Z2 (p0:(List (Int×(Int×(Int×(Int×Int)))))):(Int×Int) := (cond ((v_first ((s_Z6 (decide ((p0.length:Int) > 0)) (10:Int)) :: ((s_Z6 (decide ((p0.length:Int)≤20)) (8:Int)) :: ([]:List Int)))) != 0) ((0:Int),(v_first ((s_Z6 (decide ((p0.length:Int) > 0)) (10:Int)) :: ((s_Z6 (decide ((p0.length:Int)≤20)) (8:Int)) :: ([]:List Int))))) (lpv (0,0) (st_Z2_0 p0) ((0:Int),(-1:Int))))
abbrev pre_Z2 (p0:(List (Int×(Int×(Int×(Int×Int)))))):List Prop := [((((v_first ((s_Z6 (decide ((p0.length:Int) > 0)) (10:Int)) :: ((s_Z6 (decide ((p0.length:Int)≤20)) (8:Int)) :: ([]:List Int)))) != 0)=false)→(OkL (st_Z2_0 p0) (sp_Z2_0 p0) ((0:Int),(-1:Int))))]
theorem d_Z2 (p0:(List (Int×(Int×(Int×(Int×Int)))))) (K:(Int×Int)→Prop) (hp:∀ p∈pre_Z2 p0,p) (h:K (s_Z2 p0)):w_Z2 p0 K := by
 unfold w_Z2
 unfold s_Z2 at h
 obtain ⟨hp0,_⟩ := conj_of hp
 exact ⟨(lenOk_of 2 rfl (by decide)),(br' h (fun e0 h => h)
  (fun e0 h => (loop_gen (hp0 e0) h (fun y1 k1 hp h => by
 unfold st_Z2_0 at h; obtain ⟨hp0,hp1,_⟩ := conj_of hp
 exact (br' h (fun e2 h => ⟨(hp0 e2),(hp1 e2),rf,rf,rf,rfl,rf,rf,rf,rfl,rf,rf,rf,rfl,rf,rf,rfl,(lenOk_of 2 rfl (by decide)),(br' h (fun e3 h => h)
  (fun e3 h => h))⟩)
  (fun e2 h => h))))))⟩
theorem tx_first2 {x y:Int}:v_first [x,y]=cond (x != 0) x y := by
 simp only [v_first]
 cases h:(x != 0)
 ·cases h2:(y != 0)
  ·simp at h2; subst h2; rfl
  ·rfl
 ·rfl
theorem tx_csh {n:Int} (h:0≤n):v_first [s_Z6 (decide (n > 0)) 10,s_Z6 (decide (n≤20)) 8]=cond (n == 0) 10 (cond (decide (n > 20)) 8 0) := by
 unfold s_Z6
 rcases int0 n with ⟨h0,_,e0⟩ | ⟨h0,_,e0⟩
 ·subst h0; rfl
 ·rw [e0,decide_eq_true (show n > 0 by omega)]
  rcases dec0 (a := 20) (b := n) with ⟨_,_,_,e1,e2⟩ | ⟨_,_,_,e1,e2⟩ <;> rw [e1,e2] <;> rfl
theorem tx_len {p0:List (Int×Int×Int×Int×Int)} (h:(v_first [s_Z6 (decide ((p0.length:Int) > 0)) 10,s_Z6 (decide ((p0.length:Int)≤20)) 8] != 0)=false):p0.length≤20 := by
 rw [tx_csh (by omega)] at h
 cases c:decide ((p0.length:Int) > 20)
 ·have := of_decide_eq_false c; omega
 ·rw [c] at h
  cases c2:((p0.length:Int) == 0) <;> rw [c2] at h <;> cases h
theorem v_svalm {x:Int×Int×Int×Int×Int}:cond (cond (cond (cond (s_Za x.1 0 1000000000000) (s_Za x.2.1 (-10) 10) false) (s_Za x.2.2.1 (-10) 10) false) (s_Za x.2.2.2.1 (-10) 10) false) (s_Za x.2.2.2.2 (-100000) 100000) false = v_sval x := by
 rw [tx_withinG,tx_withinG,tx_withinG,tx_withinG,tx_withinG]
 unfold v_sval
 cases s_Z3 x.1 0 1000000000000 <;> cases s_Z3 x.2.1 (-10) 10 <;> cases s_Z3 x.2.2.1 (-10) 10 <;> cases s_Z3 x.2.2.2.1 (-10) 10 <;> rfl
theorem v_sval_t {x:Int×Int×Int×Int×Int} (h:v_sval x = true):0≤x.1 := by
 unfold v_sval at h
 cases c:s_Z3 x.1 0 1000000000000
 ·rw [c] at h; cases h
 ·exact (tx_within.1 c).1
theorem l_Z2_0 (p0:List (Int×Int×Int×Int×Int)) (hl:p0.length≤20):OkL (st_Z2_0 p0) (sp_Z2_0 p0) (0,-1)∧lpv ((0,0):Int×Int) (st_Z2_0 p0) (0,-1)=v_scan (v_cs1 p0) ((0,0):Int×Int) 0 p0 := by
 refine @for_is Int (Int×Int) (Int×Int) (0,0) (st_Z2_0 p0) (sp_Z2_0 p0) (fun i t => (i,t)) 0 p0.length (fun j t => t = if j = 0 then -1 else (p0.getD (j - 1) (0,0,0,0,0)).1) (fun j _ => v_scan (v_cs1 p0) ((0,0):Int×Int) (j:Int) (p0.drop j)) (by omega) (by omega) ?_ ?_ (-1) rfl
 ·intro t _
  rw [List.drop_length]
  simp only [sp_Z2_0,st_Z2_0,fM,show decide ((p0.length:Int) < (p0.length:Int))=false from decide_eq_false (by omega),cond_false]
  refine ⟨?_,rfl⟩
  and_intros
  all_goals first
   | (intro h; cases h; done)
   | (intro p hp; cases hp)
 ·intro j t _ hj ht
  have hd1:decide ((j:Int) < (p0.length:Int))=true := decide_eq_true (by omega)
  have hw1:IntKind.i64.wrap ((j:Int) + 1)=((j + 1:Nat):Int) := wrap_id (by omega) (by omega)
  rw [drop_getD (0,0,0,0,0) hj]
  have e:v_scan (v_cs1 p0) ((0,0):Int×Int) (j:Int) (p0.getD j (0,0,0,0,0) :: p0.drop (j + 1))=match v_cs1 p0 (j:Int) (p0.getD j (0,0,0,0,0)) with | none => v_scan (v_cs1 p0) ((0,0):Int×Int) ((j:Int) + 1) (p0.drop (j + 1)) | some v => v := by simp only [v_scan]; cases v_cs1 p0 (j:Int) (p0.getD j (0,0,0,0,0)) <;> rfl
  rw [e,show (j:Int) + 1 = ((j + 1:Nat):Int) by omega]
  simp only [sp_Z2_0,st_Z2_0,fM,hd1,cond_true,hw1,Int.toNat_natCast,v_svalm]
  refine ⟨?_,?_⟩
  ·and_intros
   all_goals first
    | (intro p hp; cases hp; done)
    | (intros; omega)
  ·unfold v_cs1
   cases hv:v_sval (p0.getD j (0,0,0,0,0))
   ·exact .inr rfl
   ·have h0 := v_sval_t hv
    rcases Nat.eq_zero_or_pos j with rfl | hp
    ·rw [if_pos rfl] at ht
     rw [ht,decide_eq_true (show (p0.getD 0 (0,0,0,0,0)).1 > -1 by omega)]
     exact .inl ⟨_,rfl,by simp,rfl⟩
    ·rw [if_neg (by omega)] at ht
     rw [show ((j:Int) == 0)=false from beq_eq_false_iff_ne.2 (by omega),show ((j:Int) - 1).toNat = j - 1 by omega,ht]
     cases decide ((p0.getD j (0,0,0,0,0)).1 > (p0.getD (j - 1) (0,0,0,0,0)).1)
     ·exact .inr rfl
     ·exact .inl ⟨_,rfl,by simp,rfl⟩
abbrev t_Z2 (p0:List (Int×Int×Int×Int×Int)):Int×Int := v_cs p0
abbrev qre_Z2 (_p0:List (Int×Int×Int×Int×Int)):List Prop := []
theorem pp_Z2 (p0:List (Int×Int×Int×Int×Int)) (_hq:∀ p∈qre_Z2 p0,p):∀ p∈pre_Z2 p0,p := by
 simp only [pre_Z2,fM]
 refine ⟨fun h => ?_,by simp⟩
 exact (l_Z2_0 p0 (tx_len h)).1
theorem tt_Z2 (p0:List (Int×Int×Int×Int×Int)) (_hq:∀ p∈qre_Z2 p0,p):s_Z2 p0 = t_Z2 p0 := by
 unfold s_Z2 t_Z2 v_cs
 rw [tx_csh (by omega)]
 cases h:decide ((p0.length:Int) > 20)
 ·rw [(l_Z2_0 p0 (by have := of_decide_eq_false h; omega)).2]
  cases ((p0.length:Int) == 0) <;> rfl
 ·cases ((p0.length:Int) == 0) <;> rfl
/-- Valid samples. -/
structure v_sok1 (q:Int×Int×Int×Int×Int):Prop where
 t:0≤q.1∧q.1≤1000000000000
 x : -10≤q.2.1∧q.2.1≤10
 y : -10≤q.2.2.1∧q.2.2.1≤10
 z : -10≤q.2.2.2.1∧q.2.2.2.1≤10
 v : -100000≤q.2.2.2.2∧q.2.2.2.2≤100000
structure v_smp (l:List (Int×Int×Int×Int×Int)):Prop where
 ne:l ≠ []
 len:l.length≤20
 ok:∀ x∈l,v_sok1 x
 asc:∀ k,0 < k→k < l.length→(l.getD (k - 1) (0,0,0,0,0)).1 < (l.getD k (0,0,0,0,0)).1
theorem v_sval_iff {x:Int×Int×Int×Int×Int}:v_sval x = true ↔ v_sok1 x := by
 unfold v_sval
 constructor
 ·intro h
  cases c1:s_Z3 x.1 0 1000000000000 <;> cases c2:s_Z3 x.2.1 (-10) 10 <;> cases c3:s_Z3 x.2.2.1 (-10) 10 <;> cases c4:s_Z3 x.2.2.2.1 (-10) 10 <;> cases c5:s_Z3 x.2.2.2.2 (-100000) 100000 <;> rw [c1,c2,c3,c4,c5] at h <;> try (cases h; done)
  exact ⟨tx_within.1 c1,tx_within.1 c2,tx_within.1 c3,tx_within.1 c4,tx_within.1 c5⟩
 ·rintro ⟨h1,h2,h3,h4,h5⟩
  rw [tx_within.2 h1,tx_within.2 h2,tx_within.2 h3,tx_within.2 h4,tx_within.2 h5]; rfl
theorem v_cs1_none {l:List (Int×Int×Int×Int×Int)} {k:Nat} {x:Int×Int×Int×Int×Int}:v_cs1 l (k:Int) x = none ↔ v_sok1 x∧(0 < k→(l.getD (k - 1) (0,0,0,0,0)).1 < x.1) := by
 unfold v_cs1
 have hk:((k:Int) - 1).toNat = k - 1 := by omega
 rw [hk]
 cases hv:v_sval x
 ·simp only [cond_false,reduceCtorEq,false_iff]
  rintro ⟨h,_⟩
  rw [v_sval_iff.2 h] at hv; cases hv
 ·have hs := v_sval_iff.1 hv
  rcases int0 (k:Int) with ⟨h0,_,e⟩ | ⟨h0,_,e⟩ <;> rw [e]
  ·simp only [cond_true,true_iff]
   exact ⟨hs,fun h => by omega⟩
  ·simp only [cond_true,cond_false]
   cases c:decide (x.1 > (l.getD (k - 1) (0,0,0,0,0)).1)
   ·have := of_decide_eq_false c
    simp only [cond_false,reduceCtorEq,false_iff]
    rintro ⟨_,h⟩
    have := h (by omega)
    omega
   ·have := of_decide_eq_true c
    simp only [cond_true,true_iff]
    exact ⟨hs,fun _ => this⟩
theorem v_cs_iff {l:List (Int×Int×Int×Int×Int)}:(v_cs l).2 = 0 ↔ v_smp l := by
 constructor
 ·intro h
  unfold v_cs at h
  rcases int0 (l.length:Int) with ⟨_,_,e0⟩ | ⟨h0,_,e0⟩
  ·rw [e0] at h; cases h
  rw [e0] at h
  rcases dec0 (a := 20) (b := (l.length:Int)) with ⟨_,_,_,_,e1⟩ | ⟨h1,_,_,_,e1⟩
  ·rw [e1] at h; cases h
  rw [e1] at h
  simp only [cond_false] at h
  have key := v_scan_end (f := v_cs1 l) (e := ((0,0):Int×Int)) (P := fun (r:gG) => r.2 = 0) l 0 h (fun j x v _ hv hv0 => by
   unfold v_cs1 at hv
   cases c1:v_sval x <;> rw [c1] at hv
   ·simp only [cond_false,sJ] at hv; subst hv; cases hv0
   ·cases c2:cond (j == 0) true (decide (x.1 > (l.getD (j - 1).toNat (0,0,0,0,0)).1)) <;> rw [c2] at hv
    ·simp only [cond_true,cond_false,sJ] at hv; subst hv; cases hv0
    ·cases hv)
  have key2:∀ k,(hk:k < l.length)→v_sok1 (l.getD k (0,0,0,0,0))∧(0 < k→(l.getD (k - 1) (0,0,0,0,0)).1 < (l.getD k (0,0,0,0,0)).1) := fun k hk => by
   have := key k hk
   rw [Int.zero_add] at this
   rw [gd_get (0,0,0,0,0) hk]
   exact v_cs1_none.1 this
  refine ⟨by rintro rfl; exact h0 rfl,by omega,fun x hx => ?_,fun k h0 hk => (key2 k hk).2 h0⟩
  obtain ⟨k,hk,rfl⟩ := List.getElem_of_mem hx
  rw [← gd_get (0,0,0,0,0) hk]
  exact (key2 k hk).1
 ·intro h
  have h0:0 < l.length := List.length_pos_iff.2 h.ne
  have hl := h.len
  unfold v_cs
  rw [show ((l.length:Int) == 0)=false from beq_eq_false_iff_ne.2 (by omega),decide_eq_false (show ¬ (l.length:Int) > 20 by omega)]
  simp only [cond_false]
  have key:∀ (r:List (Int×Int×Int×Int×Int)) (k:Nat),l.drop k = r→v_scan (v_cs1 l) ((0,0):Int×Int) (k:Int) r = (0,0) := by
   intro r
   induction r with
   | nil => intro k _; rfl
   | cons x r ih =>
    intro k e
    have hk:k < l.length := by
     rcases Nat.lt_or_ge k l.length with g | g
     ·exact g
     ·rw [List.drop_eq_nil_of_le g] at e; cases e
    rw [drop_getD (0,0,0,0,0) hk] at e
    simp only [List.cons.injEq] at e
    obtain ⟨e1,e2⟩ := e
    unfold v_scan
    rw [v_cs1_none.2 ⟨e1 ▸ h.ok _ (getD_mem' _ hk),fun h0 => e1 ▸ h.asc k h0 hk⟩]
    have := ih (k + 1) e2
    rw [Int.natCast_add] at this
    exact this
  rw [show v_scan (v_cs1 l) ((0,0):Int×Int) 0 l = (0,0) from key l 0 rfl]

abbrev con_Z2:Con := ⟨P_Z2,R_Z2,fun x => qre_Z2 x,fun x => t_Z2 x⟩
theorem ok_Z2:ConOk Tryz.prog 87 con_Z2 := okG k_Z2 e_Z2 hC_Z2 fun x hx => tf_of (w_Z2_eq x _) (d_Z2 x _ (pp_Z2 x hx) (tt_Z2 x hx))
def C_Z7:Cons := [(33,[],con_Z1e),(32,[],con_Z6),(31,[],con_Zh),(34,[],con_Z1f)]
theorem hC_Z7:ConsOk Tryz.prog C_Z7 := cC ok_Z1e <| cC ok_Z6 <| cC ok_Zh <| cC ok_Z1f <| ConsOk.nil
abbrev q2_Z7 (p0:(Int×(List (Int×Int)))) (y1:gG) := (s_Za (p0.2.getD y1.1.toNat (zz0,zz0)).1 zz0 (1000000000000:Int))
abbrev q0_Z7 (p0:(Int×(List (Int×Int)))) (y1:gG) := ((s_Z6 (cond (q2_Z7 p0 y1) (s_Za (p0.2.getD y1.1.toNat (zz0,zz0)).2 (-100000:Int) (100000:Int)) false) zz2) :: ((s_Z6 (decide ((p0.2.getD y1.1.toNat (zz0,zz0)).1 > y1.2)) (9:Int)) :: ([]:List Int)))
abbrev q1_Z7 (p0:(Int×(List (Int×Int)))) := ((s_Z6 (s_Za p0.1 (-100000:Int) (100000:Int)) zz2) :: ((s_Z6 (decide ((p0.2.length:Int) ≥ zz2)) (10:Int)) :: ((s_Z6 (decide ((p0.2.length:Int)≤20)) (8:Int)) :: ([]:List Int))))
def w_Z7 (p0:(Int×(List (Int×Int)))) (K:(Int×Int)→Prop):Prop := ((lenOk (q1_Z7 p0)) ∧(((((v_first (q1_Z7 p0)) != zz0)=true) →(K (zz0,(v_first (q1_Z7 p0))))) ∧((((v_first (q1_Z7 p0)) != zz0)=false) →(∃ n0,(loopP (fun (y1:gG) k2 => ((((decide (y1.1 < (p0.2.length:Int)))=true) →((zz0≤y1.1) ∧((y1.1 < (p0.2.length:Int)) ∧((((q2_Z7 p0 y1)=true) →((q2_Z7 p0 y1)=(q2_Z7 p0 y1))) ∧((((q2_Z7 p0 y1)=true) →((q2_Z7 p0 y1)=(q2_Z7 p0 y1))) ∧(((q2_Z7 p0 y1)=(q2_Z7 p0 y1)) ∧((lenOk (q0_Z7 p0 y1)) ∧(((((v_first (q0_Z7 p0 y1)) != zz0)=true) →(K (y1.1,(v_first (q0_Z7 p0 y1))))) ∧((((v_first (q0_Z7 p0 y1)) != zz0)=false) →(k2 ((wi (y1.1 + zz1)),(p0.2.getD y1.1.toNat (zz0,zz0)).1))))))))))) ∧(((decide (y1.1 < (p0.2.length:Int)))=false) →(K (zz0,zz0))))) n0 (zz0,(-1:Int)))))))
theorem w_Z7_eq (p0:(Int×(List (Int×Int)))) (K:(Int×Int)→Prop):tfn F_Z7 A_Z7 C_Z7 P_Z7 R_Z7 p0 K = w_Z7 p0 K := by kernel_rfl
def st_Z7_0 (p0:(Int×(List (Int×Int)))) (y1:gG):(Int×Int) ⊕ (Int×Int) := (cond (decide (y1.1 < (p0.2.length:Int))) (cond ((v_first ((s_Z6 (cond (s_Za (p0.2.getD y1.1.toNat (0,0)).1 (0:Int) (1000000000000:Int)) (s_Za (p0.2.getD y1.1.toNat (0,0)).2 (-100000:Int) (100000:Int)) false) (2:Int)) :: ((s_Z6 (decide ((p0.2.getD y1.1.toNat (0,0)).1 > y1.2)) (9:Int)) :: ([]:List Int)))) != 0) (Sum.inr (y1.1,(v_first ((s_Z6 (cond (s_Za (p0.2.getD y1.1.toNat (0,0)).1 (0:Int) (1000000000000:Int)) (s_Za (p0.2.getD y1.1.toNat (0,0)).2 (-100000:Int) (100000:Int)) false) (2:Int)) :: ((s_Z6 (decide ((p0.2.getD y1.1.toNat (0,0)).1 > y1.2)) (9:Int)) :: ([]:List Int)))))) (Sum.inl ((IntKind.i64.wrap (y1.1 + 1)),(p0.2.getD y1.1.toNat (0,0)).1))) (Sum.inr (0,0)))
abbrev sp_Z7_0 (p0:(Int×(List (Int×Int)))) (y1:gG):List Prop := [(((decide (y1.1 < (p0.2.length:Int)))=true)→((0:Int)≤y1.1)),(((decide (y1.1 < (p0.2.length:Int)))=true)→(y1.1 < (p0.2.length:Int)))]
def s_Z7 (p0:(Int×(List (Int×Int)))):(Int×Int) := (cond ((v_first ((s_Z6 (s_Za p0.1 (-100000:Int) (100000:Int)) (2:Int)) :: ((s_Z6 (decide ((p0.2.length:Int) ≥ 2)) (10:Int)) :: ((s_Z6 (decide ((p0.2.length:Int)≤20)) (8:Int)) :: ([]:List Int))))) != 0) ((0:Int),(v_first ((s_Z6 (s_Za p0.1 (-100000:Int) (100000:Int)) (2:Int)) :: ((s_Z6 (decide ((p0.2.length:Int) ≥ 2)) (10:Int)) :: ((s_Z6 (decide ((p0.2.length:Int)≤20)) (8:Int)) :: ([]:List Int)))))) (lpv (0,0) (st_Z7_0 p0) ((0:Int),(-1:Int))))
abbrev pre_Z7 (p0:(Int×(List (Int×Int)))):List Prop := [((((v_first ((s_Z6 (s_Za p0.1 (-100000:Int) (100000:Int)) (2:Int)) :: ((s_Z6 (decide ((p0.2.length:Int) ≥ 2)) (10:Int)) :: ((s_Z6 (decide ((p0.2.length:Int)≤20)) (8:Int)) :: ([]:List Int))))) != 0)=false)→(OkL (st_Z7_0 p0) (sp_Z7_0 p0) ((0:Int),(-1:Int))))]
theorem d_Z7 (p0:(Int×(List (Int×Int)))) (K:(Int×Int)→Prop) (hp:∀ p∈pre_Z7 p0,p) (h:K (s_Z7 p0)):w_Z7 p0 K := by
 unfold w_Z7
 unfold s_Z7 at h
 obtain ⟨hp0,_⟩ := conj_of hp
 exact ⟨(lenOk_of 3 rfl (by decide)),(br' h (fun e0 h => h)
  (fun e0 h => (loop_gen (hp0 e0) h (fun y1 k1 hp h => by
 unfold st_Z7_0 at h; obtain ⟨hp0,hp1,_⟩ := conj_of hp
 exact (br' h (fun e2 h => ⟨(hp0 e2),(hp1 e2),rf,rf,rfl,(lenOk_of 2 rfl (by decide)),(br' h (fun e3 h => h)
  (fun e3 h => h))⟩)
  (fun e2 h => h))))))⟩
theorem tx_cbh {d n:Int}:v_first [s_Z6 (s_Za d (-100000) 100000) 2,s_Z6 (decide (n ≥ 2)) 10,s_Z6 (decide (n≤20)) 8]=cond (s_Z3 d (-100000) 100000) (cond (decide (n < 2)) 10 (cond (decide (n > 20)) 8 0)) 2 := by
 rw [tx_first3,tx_unless,tx_unless,tx_unless,tx_withinG]
 cases s_Z3 d (-100000) 100000
 ·rfl
 rcases dec0 (a := n) (b := 2) with ⟨h,c1,c2,c3,c4⟩ | ⟨h,c1,c2,c3,c4⟩
 ·rw [decide_eq_false (show ¬ n ≥ 2 by omega),decide_eq_true (show n < 2 by omega)]; rfl
 ·rw [decide_eq_true (show n ≥ 2 by omega),decide_eq_false (show ¬ n < 2 by omega)]
  rcases Int.lt_or_le 20 n with g | g
  ·rw [decide_eq_false (show ¬ n≤20 by omega),decide_eq_true (show n > 20 by omega)]; rfl
  ·rw [decide_eq_true (show n≤20 by omega),decide_eq_false (show ¬ n > 20 by omega)]; rfl
theorem tx_blen {p0:Int×List (Int×Int)} (h:(v_first [s_Z6 (s_Za p0.1 (-100000) 100000) 2,s_Z6 (decide ((p0.2.length:Int) ≥ 2)) 10,s_Z6 (decide ((p0.2.length:Int)≤20)) 8] != 0)=false):p0.2.length≤20 := by
 rw [tx_cbh] at h
 cases c1:s_Z3 p0.1 (-100000) 100000 <;> rw [c1] at h
 ·cases h
 cases c2:decide ((p0.2.length:Int) < 2) <;> rw [c2] at h
 ·cases c:decide ((p0.2.length:Int) > 20)
  ·have := of_decide_eq_false c; omega
  ·rw [c] at h; cases h
 ·cases h
theorem v_pvalm {x:Int×Int}:cond (s_Za x.1 0 1000000000000) (s_Za x.2 (-100000) 100000) false = v_pval x := by
 rw [tx_withinG,tx_withinG]; rfl
theorem v_pval_t {x:Int×Int} (h:v_pval x = true):(0≤x.1∧x.1≤1000000000000)∧-100000≤x.2∧x.2≤100000 := by
 unfold v_pval at h
 cases c:s_Z3 x.1 0 1000000000000 <;> rw [c] at h
 ·cases h
 ·exact ⟨tx_within.1 c,tx_within.1 h⟩
theorem l_Z7_0 (p0:Int×List (Int×Int)) (hl:p0.2.length≤20):OkL (st_Z7_0 p0) (sp_Z7_0 p0) (0,-1)∧lpv ((0,0):Int×Int) (st_Z7_0 p0) (0,-1)=v_scan (v_cb1 p0.2) ((0,0):Int×Int) 0 p0.2 := by
 refine @for_is Int (Int×Int) (Int×Int) (0,0) (st_Z7_0 p0) (sp_Z7_0 p0) (fun i t => (i,t)) 0 p0.2.length (fun j t => t = if j = 0 then -1 else (p0.2.getD (j - 1) (0,0)).1) (fun j _ => v_scan (v_cb1 p0.2) ((0,0):Int×Int) (j:Int) (p0.2.drop j)) (by omega) (by omega) ?_ ?_ (-1) rfl
 ·intro t _
  rw [List.drop_length]
  simp only [sp_Z7_0,st_Z7_0,fM,show decide ((p0.2.length:Int) < (p0.2.length:Int))=false from decide_eq_false (by omega),cond_false]
  refine ⟨?_,rfl⟩
  and_intros
  all_goals first
   | (intro h; cases h; done)
   | (intro p hp; cases hp)
 ·intro j t _ hj ht
  have hd1:decide ((j:Int) < (p0.2.length:Int))=true := decide_eq_true (by omega)
  have hw1:IntKind.i64.wrap ((j:Int) + 1)=((j + 1:Nat):Int) := wrap_id (by omega) (by omega)
  rw [drop_getD (0,0) hj]
  have e:v_scan (v_cb1 p0.2) ((0,0):Int×Int) (j:Int) (p0.2.getD j (0,0) :: p0.2.drop (j + 1))=match v_cb1 p0.2 (j:Int) (p0.2.getD j (0,0)) with | none => v_scan (v_cb1 p0.2) ((0,0):Int×Int) ((j:Int) + 1) (p0.2.drop (j + 1)) | some v => v := by simp only [v_scan]; cases v_cb1 p0.2 (j:Int) (p0.2.getD j (0,0)) <;> rfl
  rw [e,show (j:Int) + 1 = ((j + 1:Nat):Int) by omega]
  simp only [sp_Z7_0,st_Z7_0,fM,hd1,cond_true,hw1,Int.toNat_natCast,v_pvalm,tx_unless,tx_first2]
  refine ⟨?_,?_⟩
  ·and_intros
   all_goals first
    | (intro p hp; cases hp; done)
    | (intros; omega)
  ·unfold v_cb1
   cases hv:v_pval (p0.2.getD j (0,0))
   ·exact .inr rfl
   ·have h0 := (v_pval_t hv).1.1
    rcases Nat.eq_zero_or_pos j with rfl | hp
    ·rw [if_pos rfl] at ht
     rw [ht,decide_eq_true (show (p0.2.getD 0 (0,0)).1 > -1 by omega)]
     exact .inl ⟨_,rfl,by simp,rfl⟩
    ·rw [if_neg (by omega)] at ht
     rw [show ((j:Int) == 0)=false from beq_eq_false_iff_ne.2 (by omega),show ((j:Int) - 1).toNat = j - 1 by omega,ht]
     cases decide ((p0.2.getD j (0,0)).1 > (p0.2.getD (j - 1) (0,0)).1)
     ·exact .inr rfl
     ·exact .inl ⟨_,rfl,by simp,rfl⟩
abbrev t_Z7 (p0:Int×List (Int×Int)):Int×Int := v_cb p0
abbrev qre_Z7 (_p0:Int×List (Int×Int)):List Prop := []
theorem pp_Z7 (p0:Int×List (Int×Int)) (_hq:∀ p∈qre_Z7 p0,p):∀ p∈pre_Z7 p0,p := by
 simp only [pre_Z7,fM]
 refine ⟨fun h => ?_,by simp⟩
 exact (l_Z7_0 p0 (tx_blen h)).1
theorem tt_Z7 (p0:Int×List (Int×Int)) (_hq:∀ p∈qre_Z7 p0,p):s_Z7 p0 = t_Z7 p0 := by
 unfold s_Z7 t_Z7 v_cb
 rw [tx_cbh]
 cases s_Z3 p0.1 (-100000) 100000
 ·rfl
 cases decide ((p0.2.length:Int) < 2)
 ·cases h:decide ((p0.2.length:Int) > 20)
  ·rw [(l_Z7_0 p0 (by have := of_decide_eq_false h; omega)).2]; rfl
  ·rfl
 ·rfl
/-- Valid base stations and rules. -/
structure v_bok (b:Int×List (Int×Int)):Prop where
 d : -100000≤b.1∧b.1≤100000
 two:2≤b.2.length
 len:b.2.length≤20
 ok:∀ k,k < b.2.length→(0≤(b.2.getD k (0,0)).1∧(b.2.getD k (0,0)).1≤1000000000000)∧-100000≤(b.2.getD k (0,0)).2∧(b.2.getD k (0,0)).2≤100000
 asc:∀ k,0 < k→k < b.2.length→(b.2.getD (k - 1) (0,0)).1 < (b.2.getD k (0,0)).1
theorem v_cb_ok {b:Int×List (Int×Int)} (h:(v_cb b).2 = 0):v_bok b := by
 unfold v_cb at h
 cases c1:s_Z3 b.1 (-100000) 100000 <;> rw [c1] at h
 ·cases h
 cases c2:decide ((b.2.length:Int) < 2) <;> rw [c2] at h
 rotate_left
 ·cases h
 cases c3:decide ((b.2.length:Int) > 20) <;> rw [c3] at h
 rotate_left
 ·cases h
 have h2 := of_decide_eq_false c2
 have h3 := of_decide_eq_false c3
 simp only [cond_false,cond_true] at h
 have key := v_scan_end (f := v_cb1 b.2) (e := ((0,0):Int×Int)) (P := fun (r:gG) => r.2 = 0) b.2 0 h (fun j x v _ hv hv0 => by
  unfold v_cb1 at hv
  cases c1:v_pval x <;> rw [c1] at hv
  ·simp only [cond_false,sJ] at hv; subst hv; cases hv0
  ·cases c2:cond (j == 0) true (decide (x.1 > (b.2.getD (j - 1).toNat (0,0)).1)) <;> rw [c2] at hv
   ·simp only [cond_true,cond_false,sJ] at hv; subst hv; cases hv0
   ·cases hv)
 have key2:∀ k,(hk:k < b.2.length)→v_pval (b.2.getD k (0,0))=true∧(0 < k→(b.2.getD (k - 1) (0,0)).1 < (b.2.getD k (0,0)).1) := fun k hk => by
  have := key k hk
  rw [Int.zero_add,← gd_get (0,0) hk] at this
  unfold v_cb1 at this
  cases c:v_pval (b.2.getD k (0,0)) <;> rw [c] at this
  ·cases this
  ·refine ⟨rfl,fun h0 => ?_⟩
   rw [show ((k:Int) == 0)=false from beq_eq_false_iff_ne.2 (by omega),show ((k:Int) - 1).toNat = k - 1 by omega] at this
   cases d:decide ((b.2.getD k (0,0)).1 > (b.2.getD (k - 1) (0,0)).1) <;> rw [d] at this
   ·cases this
   ·exact of_decide_eq_true d
 exact ⟨tx_within.1 c1,by omega,by omega,fun k hk => v_pval_t (key2 k hk).1,fun k h0 hk => (key2 k hk).2 h0⟩
structure v_rlok (r:gG):Prop where
 l:0≤r.1∧r.1≤200000
 w:1≤r.2∧r.2≤1000000000000
abbrev con_Z7:Con := ⟨P_Z7,R_Z7,fun x => qre_Z7 x,fun x => t_Z7 x⟩
theorem ok_Z7:ConOk Tryz.prog 8 con_Z7 := okG k_Z7 e_Z7 hC_Z7 fun x hx => tf_of (w_Z7_eq x _) (d_Z7 x _ (pp_Z7 x hx) (tt_Z7 x hx))
def C_Zq:Cons := [(83,[],con_Za)]
theorem hC_Zq:ConsOk Tryz.prog C_Zq := cC ok_Za <| ConsOk.nil
def w_Zq (p0:(Int×(List (Int×Int)))) (p1:Int) (K:Bool→Prop):Prop := ((zz0 < (p0.2.length:Int)) ∧((zz0≤(IntKind.i64.wrap ((p0.2.length:Int) - 1))) ∧(((IntKind.i64.wrap ((p0.2.length:Int) - 1)) < (p0.2.length:Int)) ∧(K (s_Za p1 (p0.2.getD (Int.toNat zz0) (zz0,zz0)).1 (p0.2.getD (Int.toNat (IntKind.i64.wrap ((p0.2.length:Int) - 1))) (zz0,zz0)).1)))))
theorem w_Zq_eq (p0:(Int×(List (Int×Int)))) (p1:Int) (K:Bool→Prop):tfn F_Zq A_Zq C_Zq P_Zq R_Zq (p0,p1) K = w_Zq p0 p1 K := by kernel_rfl
def s_Zq (p0:(Int×(List (Int×Int)))) (p1:Int):Bool := (s_Za p1 (p0.2.getD (Int.toNat (0:Int)) (0,0)).1 (p0.2.getD (Int.toNat (IntKind.i64.wrap ((p0.2.length:Int) - 1))) (0,0)).1)
abbrev pre_Zq (p0:(Int×(List (Int×Int)))) (_p1:Int):List Prop := [((0:Int) < (p0.2.length:Int)),((0:Int)≤(IntKind.i64.wrap ((p0.2.length:Int) - 1))),((IntKind.i64.wrap ((p0.2.length:Int) - 1)) < (p0.2.length:Int))]
theorem d_Zq (p0:(Int×(List (Int×Int)))) (p1:Int) (K:Bool→Prop) (hp:∀ p∈pre_Zq p0 p1,p) (h:K (s_Zq p0 p1)):w_Zq p0 p1 K := by
 unfold w_Zq
 unfold s_Zq at h
 obtain ⟨hp0,hp1,hp2,_⟩ := conj_of hp
 exact ⟨(hp0),(hp1),(hp2),h⟩
/-- Whether a tick lies within a base station's. -/
def v_iw (b:Int×List (Int×Int)) (t:Int):Bool := s_Z3 t (b.2.getD 0 (0,0)).1 (b.2.getD (b.2.length - 1) (0,0)).1
abbrev t_Zq (p0:Int×List (Int×Int)) (p1:Int):Bool := v_iw p0 p1
abbrev qre_Zq (p0:Int×List (Int×Int)) (_p1:Int):List Prop := [0 < p0.2.length,p0.2.length≤1000]
theorem pp_Zq (p0:Int×List (Int×Int)) (p1:Int) (hq:∀ p∈qre_Zq p0 p1,p):∀ p∈pre_Zq p0 p1,p := by
 obtain ⟨h1,h2,_⟩ := conj_of hq
 have hw:IntKind.i64.wrap ((p0.2.length:Int) - 1)=(p0.2.length:Int) - 1 := wrap_id (by omega) (by omega)
 simp only [pre_Zq,fM,hw]
 exact ⟨by omega,by omega,by omega,by simp⟩
theorem tt_Zq (p0:Int×List (Int×Int)) (p1:Int) (hq:∀ p∈qre_Zq p0 p1,p):s_Zq p0 p1 = t_Zq p0 p1 := by
 obtain ⟨h1,h2,_⟩ := conj_of hq
 have hw:IntKind.i64.wrap ((p0.2.length:Int) - 1)=((p0.2.length - 1:Nat):Int) := by rw [wrap_id (by omega) (by omega)]; omega
 unfold s_Zq t_Zq v_iw
 rw [hw,Int.toNat_natCast]
 exact tx_withinG ..

abbrev con_Zq:Con := ⟨P_Zq,R_Zq,fun x => qre_Zq x.1 x.2,fun x => t_Zq x.1 x.2⟩
theorem ok_Zq:ConOk Tryz.prog 36 con_Zq := okG k_Zq e_Zq hC_Zq fun x hx => tf_of (w_Zq_eq x.1 x.2 _) (d_Zq x.1 x.2 _ (pp_Zq x.1 x.2 hx) (tt_Zq x.1 x.2 hx))
def C_Z1b:Cons := []
theorem hC_Z1b:ConsOk Tryz.prog C_Z1b := ConsOk.nil
def w_Z1b (p0:Int) (K:Bool→Prop):Prop := (K (p0 != p0))
theorem w_Z1b_eq (p0:Int) (K:Bool→Prop):tfn F_Z1b A_Z1b C_Z1b P_Z1b R_Z1b p0 K = w_Z1b p0 K := by kernel_rfl
def s_Z1b (p0:Int):Bool := (p0 != p0)
abbrev pre_Z1b (_p0:Int):List Prop := []
theorem d_Z1b (p0:Int) (K:Bool→Prop) (_hp:∀ p∈pre_Z1b p0,p) (h:K (s_Z1b p0)):w_Z1b p0 K := by
 unfold w_Z1b
 unfold s_Z1b at h
 exact h
abbrev con_Z1b:Con := ⟨P_Z1b,R_Z1b,fun x => pre_Z1b x,fun x => s_Z1b x⟩
theorem ok_Z1b:ConOk Tryz.prog 113 con_Z1b := okG k_Z1b e_Z1b hC_Z1b fun x hx => tf_of (w_Z1b_eq x _) (d_Z1b x _ hx rfl)
def C_Z1d:Cons := [(113,[],con_Z1b)]
theorem hC_Z1d:ConsOk Tryz.prog C_Z1d := cC ok_Z1b <| ConsOk.nil
def w_Z1d (p0:Int) (p1:Int) (K:Int→Prop):Prop := ((((s_Z1b p0)=true) →((((s_Z1b p1)=true) →(K zz0)) ∧(((s_Z1b p1)=false) →(K (-1:Int))))) ∧(((s_Z1b p0)=false) →((((s_Z1b p1)=true) →(K zz1)) ∧(((s_Z1b p1)=false) →((((decide (p0 < p1))=true) →(K (-1:Int))) ∧(((decide (p0 < p1))=false) →((((decide (p0 > p1))=true) →(K zz1)) ∧(((decide (p0 > p1))=false) →(K zz0)))))))))
theorem w_Z1d_eq (p0:Int) (p1:Int) (K:Int→Prop):tfn F_Z1d A_Z1d C_Z1d P_Z1d R_Z1d (p0,p1) K = w_Z1d p0 p1 K := by kernel_rfl
def s_Z1d (p0:Int) (p1:Int):Int := (cond (s_Z1b p0) (cond (s_Z1b p1) (0:Int) (-1:Int)) (cond (s_Z1b p1) (1:Int) (cond (decide (p0 < p1)) (-1:Int) (cond (decide (p0 > p1)) (1:Int) (0:Int)))))
abbrev pre_Z1d (_p0:Int) (_p1:Int):List Prop := []
theorem d_Z1d (p0:Int) (p1:Int) (K:Int→Prop) (_hp:∀ p∈pre_Z1d p0 p1,p) (h:K (s_Z1d p0 p1)):w_Z1d p0 p1 K := by
 unfold w_Z1d
 unfold s_Z1d at h
 exact (br' h (fun e0 h => (br' h (fun e1 h => h)
  (fun e1 h => h)))
  (fun e0 h => (br' h (fun e2 h => h)
  (fun e2 h => (br' h (fun e3 h => h)
  (fun e3 h => (br' h (fun e4 h => h)
  (fun e4 h => h))))))))
abbrev con_Z1d:Con := ⟨P_Z1d,R_Z1d,fun x => pre_Z1d x.1 x.2,fun x => s_Z1d x.1 x.2⟩
theorem ok_Z1d:ConOk Tryz.prog 86 con_Z1d := okG k_Z1d e_Z1d hC_Z1d fun x hx => tf_of (w_Z1d_eq x.1 x.2 _) (d_Z1d x.1 x.2 _ hx rfl)
def C_Z19:Cons := [(86,[],con_Z1d)]
theorem hC_Z19:ConsOk Tryz.prog C_Z19 := cC ok_Z1d <| ConsOk.nil
def w_Z19 (p0:gG) (p1:Int) (K:Int→Prop):Prop := (K (s_Z1d p0.1 p1))
theorem w_Z19_eq (p0:gG) (p1:Int) (K:Int→Prop):tfn F_Z19 A_Z19 C_Z19 P_Z19 R_Z19 (p0,p1) K = w_Z19 p0 p1 K := by kernel_rfl
def s_Z19 (p0:gG) (p1:Int):Int := (s_Z1d p0.1 p1)
abbrev pre_Z19 (_p0:gG) (_p1:Int):List Prop := []
theorem d_Z19 (p0:gG) (p1:Int) (K:Int→Prop) (_hp:∀ p∈pre_Z19 p0 p1,p) (h:K (s_Z19 p0 p1)):w_Z19 p0 p1 K := by
 unfold w_Z19
 unfold s_Z19 at h
 exact h
abbrev con_Z19:Con := ⟨P_Z19,R_Z19,fun x => pre_Z19 x.1 x.2,fun x => s_Z19 x.1 x.2⟩
theorem ok_Z19:ConOk Tryz.prog 85 con_Z19 := okG k_Z19 e_Z19 hC_Z19 fun x hx => tf_of (w_Z19_eq x.1 x.2 _) (d_Z19 x.1 x.2 _ hx rfl)
def C_Z0:Cons := [(85,[],con_Z19)]
theorem hC_Z0:ConsOk Tryz.prog C_Z0 := cC ok_Z19 <| ConsOk.nil
abbrev q0_Z0 (p0:gC) (y1:gG) := ((decide (y1.2 < (p0.length:Int)))=(decide (y1.2 < (p0.length:Int))))
abbrev q1_Z0 (p0:gC) (y1:gG) := (q0_Z0 p0 y1)
abbrev q2_Z0 (p0:gC) (y1:gG) := (q1_Z0 p0 y1)
abbrev q3_Z0 (p0:gC) (y1:gG) := (q2_Z0 p0 y1)
abbrev q4_Z0 (p0:gC) (y1:gG) := (q3_Z0 p0 y1)
abbrev q5_Z0 (p0:gC) (y1:gG) := (q4_Z0 p0 y1)
abbrev q6_Z0 (p0:gC) (y1:gG) := (q5_Z0 p0 y1)
abbrev q7_Z0 (p0:gC) (y1:gG) := (q6_Z0 p0 y1)
abbrev q8_Z0 (p0:gC) (y1:gG) := (q7_Z0 p0 y1)
abbrev q9_Z0 (p0:gC) (y1:gG) := (q8_Z0 p0 y1)
abbrev q10_Z0 (p0:gC) (y1:gG) := (q9_Z0 p0 y1)
abbrev q11_Z0 (p0:gC) (y1:gG) := (q10_Z0 p0 y1)
abbrev q12_Z0 (p0:gC) (y1:gG) := (q11_Z0 p0 y1)
abbrev q13_Z0 (p0:gC) (y1:gG) := (q12_Z0 p0 y1)
abbrev q14_Z0 (p0:gC) (y1:gG) := (q13_Z0 p0 y1)
abbrev q15_Z0 (p0:gC) (y1:gG) := (q14_Z0 p0 y1)
abbrev q16_Z0 (p0:gC) (y1:gG) := (q15_Z0 p0 y1)
abbrev q17_Z0 (p0:gC) (y1:gG) := (q16_Z0 p0 y1)
abbrev q18_Z0 (p0:gC) (y1:gG) := (q17_Z0 p0 y1)
abbrev q19_Z0 (p0:gC) (y1:gG) := (q18_Z0 p0 y1)
abbrev q20_Z0 (p0:gC) (y1:gG) := (q19_Z0 p0 y1)
abbrev q21_Z0 (p0:gC) (y1:gG) := (q20_Z0 p0 y1)
abbrev q22_Z0 (p0:gC) (y1:gG) := (q21_Z0 p0 y1)
abbrev q23_Z0 (p0:gC) (y1:gG) := (q22_Z0 p0 y1)
abbrev q24_Z0 (p0:gC) (y1:gG) := (q23_Z0 p0 y1)
abbrev q25_Z0 (p0:gC) (y1:gG) := (q24_Z0 p0 y1)
abbrev q26_Z0 (p0:gC) (y1:gG) := (q25_Z0 p0 y1)
abbrev q27_Z0 (p0:gC) (y1:gG) := (q26_Z0 p0 y1)
abbrev q28_Z0 (p0:gC) (y1:gG) := (q27_Z0 p0 y1)
abbrev q29_Z0 (p0:gC) (y1:gG) := (q28_Z0 p0 y1)
abbrev q30_Z0 (p0:gC) (y1:gG) := (q29_Z0 p0 y1)
abbrev q31_Z0 (p0:gC) (y1:gG) := (q30_Z0 p0 y1)
abbrev q32_Z0 (p0:gC) (y1:gG) := (q31_Z0 p0 y1)
abbrev q33_Z0 (p0:gC) (y1:gG) := (q32_Z0 p0 y1)
abbrev q34_Z0 (p0:gC) (y1:gG) := (q33_Z0 p0 y1)
abbrev q35_Z0 (p0:gC) (y1:gG) := (q34_Z0 p0 y1)
abbrev q36_Z0 (p0:gC) (y1:gG) := (q35_Z0 p0 y1)
abbrev q37_Z0 (p0:gC) (y1:gG) := (q36_Z0 p0 y1)
abbrev q38_Z0 (p0:gC) (y1:gG) := (q37_Z0 p0 y1)
abbrev q39_Z0 (p0:gC) (y1:gG) := (q38_Z0 p0 y1)
abbrev q40_Z0 (p0:gC) (y1:gG) := (q39_Z0 p0 y1)
abbrev q41_Z0 (p0:gC) (y1:gG) := (q40_Z0 p0 y1)
abbrev q42_Z0 (p0:gC) (y1:gG) := (q41_Z0 p0 y1)
abbrev q43_Z0 (p0:gC) (y1:gG) := (q42_Z0 p0 y1)
abbrev q44_Z0 (p0:gC) (y1:gG) := (q43_Z0 p0 y1)
abbrev q45_Z0 (p0:gC) (y1:gG) := (q44_Z0 p0 y1)
abbrev q46_Z0 (p0:gC) (y1:gG) := (q45_Z0 p0 y1)
abbrev q47_Z0 (p0:gC) (y1:gG) := (q46_Z0 p0 y1)
abbrev q48_Z0 (p0:gC) (y1:gG) := (q47_Z0 p0 y1)
abbrev q49_Z0 (p0:gC) (y1:gG) := (q48_Z0 p0 y1)
abbrev q50_Z0 (p0:gC) (y1:gG) := (q49_Z0 p0 y1)
abbrev q51_Z0 (p0:gC) (y1:gG) := (q50_Z0 p0 y1)
abbrev q52_Z0 (p0:gC) (y1:gG) := (q51_Z0 p0 y1)
abbrev q53_Z0 (p0:gC) (y1:gG) := (q52_Z0 p0 y1)
abbrev q54_Z0 (p0:gC) (y1:gG) := (q53_Z0 p0 y1)
abbrev q55_Z0 (p0:gC) (y1:gG) := (q54_Z0 p0 y1)
abbrev q56_Z0 (p0:gC) (y1:gG) := (q55_Z0 p0 y1)
abbrev q57_Z0 (p0:gC) (y1:gG) := (q56_Z0 p0 y1)
abbrev q58_Z0 (p0:gC) (y1:gG) := (q57_Z0 p0 y1)
abbrev q59_Z0 (p0:gC) (y1:gG) := (q58_Z0 p0 y1)
abbrev q60_Z0 (p0:gC) (y1:gG) := (q59_Z0 p0 y1)
abbrev q61_Z0 (p0:gC) (y1:gG) := (q60_Z0 p0 y1)
abbrev q62_Z0 (p0:gC) (y1:gG) := (q61_Z0 p0 y1)
abbrev q63_Z0 (p0:gC) (y1:gG) := (q62_Z0 p0 y1)
abbrev q64_Z0 (p0:gC) (y1:gG) := (q63_Z0 p0 y1)
abbrev q65_Z0 (p0:gC) (y1:gG) := (q64_Z0 p0 y1)
abbrev q66_Z0 (p0:gC) (y1:gG) := (q65_Z0 p0 y1)
abbrev q67_Z0 (p0:gC) (y1:gG) := (q66_Z0 p0 y1)
abbrev q68_Z0 (p0:gC) (y1:gG) := (q67_Z0 p0 y1)
abbrev q69_Z0 (p0:gC) (y1:gG) := (q68_Z0 p0 y1)
abbrev q70_Z0 (p0:gC) (y1:gG) := (q69_Z0 p0 y1)
abbrev q71_Z0 (p0:gC) (y1:gG) := (q70_Z0 p0 y1)
abbrev q72_Z0 (p0:gC) (y1:gG) := (q71_Z0 p0 y1)
abbrev q73_Z0 (p0:gC) (y1:gG) := (q72_Z0 p0 y1)
abbrev q74_Z0 (p0:gC) (y1:gG) := (q73_Z0 p0 y1)
abbrev q75_Z0 (p0:gC) (y1:gG) := (q74_Z0 p0 y1)
abbrev q76_Z0 (p0:gC) (y1:gG) := (q75_Z0 p0 y1)
abbrev q77_Z0 (p0:gC) (y1:gG) := (q76_Z0 p0 y1)
abbrev q78_Z0 (p0:gC) (y1:gG) := (q77_Z0 p0 y1)
abbrev q79_Z0 (p0:gC) (y1:gG) := (q78_Z0 p0 y1)
abbrev q80_Z0 (p0:gC) (y1:gG) := (q79_Z0 p0 y1)
abbrev q81_Z0 (p0:gC) (y1:gG) := (q80_Z0 p0 y1)
abbrev q82_Z0 (p0:gC) (y1:gG) := (q81_Z0 p0 y1)
abbrev q83_Z0 (p0:gC) (y1:gG) := (q82_Z0 p0 y1)
abbrev q84_Z0 (p0:gC) (y1:gG) := (q83_Z0 p0 y1)
abbrev q85_Z0 (p0:gC) (y1:gG) := (q84_Z0 p0 y1)
abbrev q86_Z0 (p0:gC) (y1:gG) := (q85_Z0 p0 y1)
abbrev q87_Z0 (p0:gC) (y1:gG) := (q86_Z0 p0 y1)
abbrev q88_Z0 (p0:gC) (y1:gG) := (q87_Z0 p0 y1)
abbrev q89_Z0 (p0:gC) (y1:gG) := (q88_Z0 p0 y1)
abbrev q90_Z0 (p0:gC) (y1:gG) := (q89_Z0 p0 y1)
abbrev q91_Z0 (p0:gC) (y1:gG) := (q90_Z0 p0 y1)
abbrev q92_Z0 (p0:gC) (y1:gG) := (q91_Z0 p0 y1)
abbrev q93_Z0 (p0:gC) (y1:gG) := (q92_Z0 p0 y1)
abbrev q94_Z0 (p0:gC) (y1:gG) := (q93_Z0 p0 y1)
abbrev q95_Z0 (p0:gC) (y1:gG) := (q94_Z0 p0 y1)
abbrev q96_Z0 (p0:gC) (y1:gG) := (q95_Z0 p0 y1)
abbrev q97_Z0 (p0:gC) (y1:gG) := (q96_Z0 p0 y1)
abbrev q98_Z0 (p0:gC) (y1:gG) := (q97_Z0 p0 y1)
abbrev q99_Z0 (p0:gC) (y1:gG) := (q98_Z0 p0 y1)
abbrev q100_Z0 (p0:gC) (y1:gG) := (q99_Z0 p0 y1)
abbrev q101_Z0 (p0:gC) (y1:gG) := (q100_Z0 p0 y1)
abbrev q102_Z0 (p0:gC) (y1:gG) := (q101_Z0 p0 y1)
abbrev q103_Z0 (p0:gC) (y1:gG) := (q102_Z0 p0 y1)
abbrev q104_Z0 (p0:gC) (y1:gG) := (q103_Z0 p0 y1)
abbrev q105_Z0 (p0:gC) (y1:gG) := (q104_Z0 p0 y1)
abbrev q106_Z0 (p0:gC) (y1:gG) := (q105_Z0 p0 y1)
abbrev q107_Z0 (p0:gC) (y1:gG) := (q106_Z0 p0 y1)
abbrev q108_Z0 (p0:gC) (y1:gG) := (q107_Z0 p0 y1)
abbrev q109_Z0 (p0:gC) (y1:gG) := (q108_Z0 p0 y1)
abbrev q110_Z0 (p0:gC) (y1:gG) := (q109_Z0 p0 y1)
abbrev q111_Z0 (p0:gC) (y1:gG) := (q110_Z0 p0 y1)
abbrev q112_Z0 (p0:gC) (y1:gG) := (q111_Z0 p0 y1)
abbrev q113_Z0 (p0:gC) (y1:gG) := (q112_Z0 p0 y1)
abbrev q114_Z0 (p0:gC) (y1:gG) := (q113_Z0 p0 y1)
abbrev q115_Z0 (p0:gC) (y1:gG) := (q114_Z0 p0 y1)
abbrev q116_Z0 (p0:gC) (y1:gG) := (q115_Z0 p0 y1)
abbrev q117_Z0 (p0:gC) (y1:gG) := (q116_Z0 p0 y1)
abbrev q118_Z0 (p0:gC) (y1:gG) := (q117_Z0 p0 y1)
abbrev q119_Z0 (p0:gC) (y1:gG) := (q118_Z0 p0 y1)
def w_Z0 (p0:gC) (p1:Int) (_p2:PUnit) (K:(Int×Bool)→Prop):Prop := (∃ n0,(loopP (fun (y1:gG) k2 => ((((decide (y1.2 < y1.1))=true) →((zz0≤(wi (v_shr .u64 (IntKind.wrap .u64 (wi (y1.2 + y1.1))) zz1))) ∧(((wi (v_shr .u64 (IntKind.wrap .u64 (wi (y1.2 + y1.1))) zz1)) < (p0.length:Int)) ∧((((decide ((s_Z19 (p0.getD (Int.toNat (wi (v_shr .u64 (IntKind.wrap .u64 (wi (y1.2 + y1.1))) zz1))) (zz0,zz0)) p1) < zz0))=true) →(k2 (y1.1,(wi ((wi (v_shr .u64 (IntKind.wrap .u64 (wi (y1.2 + y1.1))) zz1)) + zz1))))) ∧(((decide ((s_Z19 (p0.getD (Int.toNat (wi (v_shr .u64 (IntKind.wrap .u64 (wi (y1.2 + y1.1))) zz1))) (zz0,zz0)) p1) < zz0))=false) →(k2 ((wi (v_shr .u64 (IntKind.wrap .u64 (wi (y1.2 + y1.1))) zz1)),y1.2))))))) ∧(((decide (y1.2 < y1.1))=false) →((((decide (y1.2 < (p0.length:Int)))=true) →(q119_Z0 p0 y1)) ∧((((decide (y1.2 < (p0.length:Int)))=true) →(q119_Z0 p0 y1)) ∧((((decide (y1.2 < (p0.length:Int)))=true) →(zz0≤y1.2)) ∧((((decide (y1.2 < (p0.length:Int)))=true) →(y1.2 < (p0.length:Int))) ∧((((decide (y1.2 < (p0.length:Int)))=true) →(q119_Z0 p0 y1)) ∧((((decide (y1.2 < (p0.length:Int)))=true) →(q119_Z0 p0 y1)) ∧((((decide (y1.2 < (p0.length:Int)))=true) →(q119_Z0 p0 y1)) ∧((((decide (y1.2 < (p0.length:Int)))=true) →(q119_Z0 p0 y1)) ∧((((decide (y1.2 < (p0.length:Int)))=true) →(q119_Z0 p0 y1)) ∧((q119_Z0 p0 y1) ∧(K (y1.2,(cond (decide (y1.2 < (p0.length:Int))) ((s_Z19 (p0.getD y1.2.toNat (zz0,zz0)) p1) == zz0) false)))))))))))))))) n0 ((p0.length:Int),zz0)))
theorem w_Z0_eq (p0:gC) (p1:Int) (p2:PUnit) (K:(Int×Bool)→Prop):tfn F_Z0 A_Z0 C_Z0 P_Z0 R_Z0 (p0,p1,p2) K = w_Z0 p0 p1 p2 K := by kernel_rfl
def st_Z0_0 (p0:gC) (p1:Int) (_p2:PUnit) (y0:gG):(Int×Int) ⊕ (Int×Bool) := (cond (decide (y0.2 < y0.1)) (cond (decide ((s_Z19 (p0.getD (Int.toNat (IntKind.i64.wrap (v_shr .u64 (IntKind.wrap .u64 (IntKind.i64.wrap (y0.2 + y0.1))) (1:Int)))) (0,0)) p1) < 0)) (Sum.inl (y0.1,(IntKind.i64.wrap ((IntKind.i64.wrap (v_shr .u64 (IntKind.wrap .u64 (IntKind.i64.wrap (y0.2 + y0.1))) (1:Int))) + 1)))) (Sum.inl ((IntKind.i64.wrap (v_shr .u64 (IntKind.wrap .u64 (IntKind.i64.wrap (y0.2 + y0.1))) (1:Int))),y0.2))) (Sum.inr (y0.2,(cond (decide (y0.2 < (p0.length:Int))) ((s_Z19 (p0.getD y0.2.toNat (0,0)) p1) == 0) false))))
abbrev sp_Z0_0 (p0:gC) (_p1:Int) (_p2:PUnit) (y0:gG):List Prop := [(((decide (y0.2 < y0.1))=true)→((0:Int)≤(IntKind.i64.wrap (v_shr .u64 (IntKind.wrap .u64 (IntKind.i64.wrap (y0.2 + y0.1))) (1:Int))))),(((decide (y0.2 < y0.1))=true)→((IntKind.i64.wrap (v_shr .u64 (IntKind.wrap .u64 (IntKind.i64.wrap (y0.2 + y0.1))) (1:Int))) < (p0.length:Int))),(((decide (y0.2 < y0.1))=false)→(((decide (y0.2 < (p0.length:Int)))=true)→((0:Int)≤y0.2))),(((decide (y0.2 < y0.1))=false)→(((decide (y0.2 < (p0.length:Int)))=true)→(y0.2 < (p0.length:Int))))]
def s_Z0 (p0:gC) (p1:Int) (p2:PUnit):(Int×Bool) := (lpv ((0:Int),false) (st_Z0_0 p0 p1 p2) ((p0.length:Int),(0:Int)))
abbrev pre_Z0 (p0:gC) (p1:Int) (p2:PUnit):List Prop := [(OkL (st_Z0_0 p0 p1 p2) (sp_Z0_0 p0 p1 p2) ((p0.length:Int),(0:Int)))]
theorem d_Z0 (p0:gC) (p1:Int) (p2:PUnit) (K:(Int×Bool)→Prop) (hp:∀ p∈pre_Z0 p0 p1 p2,p) (h:K (s_Z0 p0 p1 p2)):w_Z0 p0 p1 p2 K := by
 unfold w_Z0
 unfold s_Z0 at h
 obtain ⟨hp0,_⟩ := conj_of hp
 exact (loop_gen (hp0) h (fun y0 k0 hp h => by
 unfold st_Z0_0 at h; obtain ⟨hp0,hp1,hp2,hp3,_⟩ := conj_of hp
 exact (br' h (fun e1 h => ⟨(hp0 e1),(hp1 e1),(br' h (fun e2 h => h)
  (fun e2 h => h))⟩)
  (fun e1 h => ⟨rf,rf,(hp2 e1),(hp3 e1),rf,rf,rf,rf,rf,rfl,h⟩))))
/-- How many points lie ahead of a tick. -/
def v_pos (t:Int):List (Int×Int)→Nat
 | [] => 0
 | x :: r => cond (decide (x.1 < t)) (v_pos t r + 1) 0
theorem v_pos_le (t:Int):∀ l,v_pos t l≤l.length
 | [] => Nat.le_refl _
 | x :: r => by
  have := v_pos_le t r
  unfold v_pos
  cases decide (x.1 < t)
  ·rw [cond_false,List.length_cons]; omega
  ·rw [cond_true,List.length_cons]; omega
theorem v_pos_lt {t:Int}:∀ {l:List (Int×Int)} {k:Nat},k < v_pos t l→(l.getD k (0,0)).1 < t
 | [],k,h => by unfold v_pos at h; omega
 | x :: r,k,h => by
  unfold v_pos at h
  cases c:decide (x.1 < t) <;> rw [c] at h
  ·rw [cond_false] at h; omega
  ·rw [cond_true] at h
   match k with
   | 0 => exact of_decide_eq_true c
   | k + 1 => exact v_pos_lt (l := r) (k := k) (by omega)
theorem v_pos_at {t:Int}:∀ {l:List (Int×Int)},v_pos t l < l.length→t≤(l.getD (v_pos t l) (0,0)).1
 | [],h => by simp at h
 | x :: r,h => by
  unfold v_pos at h ⊢
  cases c:decide (x.1 < t) <;> rw [c] at h
  ·have := of_decide_eq_false c
   rw [cond_false]
   show t≤x.1
   omega
  ·rw [cond_true] at h ⊢
   rw [List.length_cons] at h
   exact v_pos_at (l := r) (by omega)
/-- Points that ascend. -/
structure v_asl (l:gC):Prop where
 len:l.length≤20
 asc:∀ k,0 < k→k < l.length→(l.getD (k - 1) (0,0)).1 < (l.getD k (0,0)).1
theorem v_pos_ge {t:Int} {l:List (Int×Int)} (h:v_asl l):∀ k,v_pos t l≤k→k < l.length→t≤(l.getD k (0,0)).1
 | 0,h1,h2 => by
  have e:v_pos t l = 0 := by omega
  have := v_pos_at (t := t) (l := l) (by omega)
  rw [e] at this; exact this
 | k + 1,h1,h2 => by
  rcases Nat.eq_or_lt_of_le h1 with e | e
  ·rw [← e]; exact v_pos_at (by omega)
  ·have := v_pos_ge (t := t) h k (by omega) (by omega)
   have g := h.asc (k + 1) (by omega) h2
   rw [Nat.add_sub_cancel] at g
   omega
theorem v_scmp (x:gG) (t:Int):s_Z19 x t = cond (decide (x.1 < t)) (-1) (cond (decide (x.1 > t)) 1 0) := by
 unfold s_Z19 s_Z1d
 have h:∀ n,s_Z1b n = false := fun n => by unfold s_Z1b; simp
 rw [h,h]; rfl
theorem u_half {n:Int} (h1:0≤n) (h2:n≤1000):IntKind.i64.wrap (v_shr .u64 (IntKind.u64.wrap (IntKind.i64.wrap n)) 1)=n / 2 := by
 rw [wrap_id (n := n) (by omega) (by omega),u_wrap h1 (by omega)]
 unfold v_shr
 rw [show (2:Int) ^ (min (Int.toNat 1) (IntKind.bits .u64))=2 from by decide,Int.fdiv_eq_ediv_of_nonneg _ (by decide)]
 exact wrap_id (by omega) (by omega)
theorem l_Z0_0 (p0:gC) (p1:Int) (p2:PUnit) (h:v_asl p0):OkL (st_Z0_0 p0 p1 p2) (sp_Z0_0 p0 p1 p2) ((p0.length:Int),0)∧lpv (0,false) (st_Z0_0 p0 p1 p2) ((p0.length:Int),0)=((v_pos p1 p0:Int),cond (decide ((v_pos p1 p0:Int) < (p0.length:Int))) (s_Z19 (p0.getD (v_pos p1 p0) (0,0)) p1 == 0) false) := by
 have hl := h.len
 have hp := v_pos_le p1 p0
 refine loop_is (fun (y:gG) => (0≤y.2∧y.2≤(v_pos p1 p0:Int))∧((v_pos p1 p0:Int)≤y.1∧y.1≤(p0.length:Int))) (fun (y:gG) => (y.1 - y.2).toNat) (fun _ => ((v_pos p1 p0:Int),cond (decide ((v_pos p1 p0:Int) < (p0.length:Int))) (s_Z19 (p0.getD (v_pos p1 p0) (0,0)) p1 == 0) false)) ?_ ⟨⟨by omega,by simp only; omega⟩,by simp only; omega⟩ (by unfold fuel; simp only; omega)
 rintro ⟨j,i⟩ ⟨⟨g1,g2⟩,g3,g4⟩
 simp only at g1 g2 g3 g4
 have hw:IntKind.i64.wrap (v_shr .u64 (IntKind.u64.wrap (IntKind.i64.wrap (i + j))) 1)=(i + j) / 2 := u_half (by omega) (by omega)
 simp only [sp_Z0_0,st_Z0_0,fM,hw]
 cases c:decide (i < j)
 ·have hc := of_decide_eq_false c
  obtain rfl:i = (v_pos p1 p0:Int) := by omega
  simp only [cond_false,Int.toNat_natCast,and_true]
  exact ⟨fun e => (by cases e),fun e => (by cases e),fun _ _ => (by omega),fun _ e => of_decide_eq_true e,fun p hp => by cases hp⟩
 ·have hc := of_decide_eq_true c
  obtain ⟨k,hk⟩ : ∃ k:Nat,(i + j) / 2 = (k:Int) := ⟨((i + j) / 2).toNat,by omega⟩
  have hk1:k < p0.length := by omega
  have hw2:IntKind.i64.wrap ((k:Int) + 1)=(k:Int) + 1 := wrap_id (by omega) (by omega)
  simp only [cond_true,hk,Int.toNat_natCast,hw2,v_scmp]
  refine ⟨⟨fun _ => (by omega),fun _ => (by omega),fun e => (by cases e),fun e => (by cases e),fun p hp => by cases hp⟩,?_⟩
  cases d:decide ((p0.getD k (0,0)).1 < p1)
  ·have hd := of_decide_eq_false d
   have:v_pos p1 p0≤k := by
    rcases Nat.lt_or_ge k (v_pos p1 p0) with g | g
    ·exact (hd (v_pos_lt g)).elim
    ·exact g
   have e:decide (cond false (-1) (cond (decide ((p0.getD k (0,0)).1 > p1)) 1 (0:Int)) < 0)=false := by cases decide ((p0.getD k (0,0)).1 > p1) <;> rfl
   rw [e]
   simp only [cond_false,and_true]
   omega
  ·have hd := of_decide_eq_true d
   have:k < v_pos p1 p0 := by
    rcases Nat.lt_or_ge k (v_pos p1 p0) with g | g
    ·exact g
    ·have := v_pos_ge h k g hk1
     omega
   rw [show decide (cond true (-1) (cond (decide ((p0.getD k (0,0)).1 > p1)) 1 (0:Int)) < 0)=true from rfl]
   simp only [cond_true,and_true]
   omega
abbrev t_Z0 (p0:gC) (p1:Int) (_p2:PUnit):Int×Bool := ((v_pos p1 p0:Int),cond (decide ((v_pos p1 p0:Int) < (p0.length:Int))) (s_Z19 (p0.getD (v_pos p1 p0) (0,0)) p1 == 0) false)
abbrev qre_Z0 (p0:gC) (_p1:Int) (_p2:PUnit):List Prop := [v_asl p0]
theorem pp_Z0 (p0:gC) (p1:Int) (p2:PUnit) (hq:∀ p∈qre_Z0 p0 p1 p2,p):∀ p∈pre_Z0 p0 p1 p2,p := by
 simp only [pre_Z0,fM]
 exact ⟨(l_Z0_0 p0 p1 p2 (conj_of hq).1).1,by simp⟩
theorem tt_Z0 (p0:gC) (p1:Int) (p2:PUnit) (hq:∀ p∈qre_Z0 p0 p1 p2,p):s_Z0 p0 p1 p2 = t_Z0 p0 p1 p2 := by
 exact (l_Z0_0 p0 p1 p2 (conj_of hq).1).2

abbrev con_Z0:Con := ⟨P_Z0,R_Z0,fun x => qre_Z0 x.1 x.2.1 x.2.2,fun x => t_Z0 x.1 x.2.1 x.2.2⟩
theorem ok_Z0:ConOk Tryz.prog 84 con_Z0 := okG k_Z0 e_Z0 hC_Z0 fun x hx => tf_of (w_Z0_eq x.1 x.2.1 x.2.2 _) (d_Z0 x.1 x.2.1 x.2.2 _ (pp_Z0 x.1 x.2.1 x.2.2 hx) (tt_Z0 x.1 x.2.1 x.2.2 hx))
def C_Zr:Cons := [(84,[85],con_Z0)]
theorem hC_Zr:ConsOk Tryz.prog C_Zr := cC ok_Z0 <| ConsOk.nil
def w_Zr (p0:(Int×(List (Int×Int)))) (p1:Int) (K:(Int×Int)→Prop):Prop := ((v_asl p0.2) ∧((zz0≤(max zz0 (IntKind.i64.wrap ((((v_pos p1 p0.2):Nat):Int) - 1)))) ∧(((max zz0 (IntKind.i64.wrap ((((v_pos p1 p0.2):Nat):Int) - 1))) < (p0.2.length:Int)) ∧((zz0≤(max zz1 (((v_pos p1 p0.2):Nat):Int))) ∧(((max zz1 (((v_pos p1 p0.2):Nat):Int)) < (p0.2.length:Int)) ∧(K ((IntKind.i64.wrap ((IntKind.i64.wrap ((IntKind.i64.wrap ((p0.2.getD (Int.toNat (max zz0 (IntKind.i64.wrap ((((v_pos p1 p0.2):Nat):Int) - 1)))) (zz0,zz0)).2 - p0.1)) * (IntKind.i64.wrap ((p0.2.getD (Int.toNat (max zz1 (((v_pos p1 p0.2):Nat):Int))) (zz0,zz0)).1 - (p0.2.getD (Int.toNat (max zz0 (IntKind.i64.wrap ((((v_pos p1 p0.2):Nat):Int) - 1)))) (zz0,zz0)).1)))) + (IntKind.i64.wrap ((IntKind.i64.wrap ((p0.2.getD (Int.toNat (max zz1 (((v_pos p1 p0.2):Nat):Int))) (zz0,zz0)).2 - (p0.2.getD (Int.toNat (max zz0 (IntKind.i64.wrap ((((v_pos p1 p0.2):Nat):Int) - 1)))) (zz0,zz0)).2)) * (IntKind.i64.wrap (p1 - (p0.2.getD (Int.toNat (max zz0 (IntKind.i64.wrap ((((v_pos p1 p0.2):Nat):Int) - 1)))) (zz0,zz0)).1)))))),(IntKind.i64.wrap ((p0.2.getD (Int.toNat (max zz1 (((v_pos p1 p0.2):Nat):Int))) (zz0,zz0)).1 - (p0.2.getD (Int.toNat (max zz0 (IntKind.i64.wrap ((((v_pos p1 p0.2):Nat):Int) - 1)))) (zz0,zz0)).1)))))))))
theorem w_Zr_eq (p0:(Int×(List (Int×Int)))) (p1:Int) (K:(Int×Int)→Prop):tfn F_Zr A_Zr C_Zr P_Zr R_Zr (p0,p1) K = w_Zr p0 p1 K := by kernel_rfl
def s_Zr (p0:(Int×(List (Int×Int)))) (p1:Int):(Int×Int) := ((IntKind.i64.wrap ((IntKind.i64.wrap ((IntKind.i64.wrap ((p0.2.getD (Int.toNat (max (0:Int) (IntKind.i64.wrap ((((v_pos p1 p0.2):Nat):Int) - 1)))) (0,0)).2 - p0.1)) * (IntKind.i64.wrap ((p0.2.getD (Int.toNat (max (1:Int) (((v_pos p1 p0.2):Nat):Int))) (0,0)).1 - (p0.2.getD (Int.toNat (max (0:Int) (IntKind.i64.wrap ((((v_pos p1 p0.2):Nat):Int) - 1)))) (0,0)).1)))) + (IntKind.i64.wrap ((IntKind.i64.wrap ((p0.2.getD (Int.toNat (max (1:Int) (((v_pos p1 p0.2):Nat):Int))) (0,0)).2 - (p0.2.getD (Int.toNat (max (0:Int) (IntKind.i64.wrap ((((v_pos p1 p0.2):Nat):Int) - 1)))) (0,0)).2)) * (IntKind.i64.wrap (p1 - (p0.2.getD (Int.toNat (max (0:Int) (IntKind.i64.wrap ((((v_pos p1 p0.2):Nat):Int) - 1)))) (0,0)).1)))))),(IntKind.i64.wrap ((p0.2.getD (Int.toNat (max (1:Int) (((v_pos p1 p0.2):Nat):Int))) (0,0)).1 - (p0.2.getD (Int.toNat (max (0:Int) (IntKind.i64.wrap ((((v_pos p1 p0.2):Nat):Int) - 1)))) (0,0)).1)))
abbrev pre_Zr (p0:(Int×(List (Int×Int)))) (p1:Int):List Prop := [(v_asl p0.2),((0:Int)≤(max (0:Int) (IntKind.i64.wrap ((((v_pos p1 p0.2):Nat):Int) - 1)))),((max (0:Int) (IntKind.i64.wrap ((((v_pos p1 p0.2):Nat):Int) - 1))) < (p0.2.length:Int)),((0:Int)≤(max (1:Int) (((v_pos p1 p0.2):Nat):Int))),((max (1:Int) (((v_pos p1 p0.2):Nat):Int)) < (p0.2.length:Int))]
theorem d_Zr (p0:(Int×(List (Int×Int)))) (p1:Int) (K:(Int×Int)→Prop) (hp:∀ p∈pre_Zr p0 p1,p) (h:K (s_Zr p0 p1)):w_Zr p0 p1 K := by
 unfold w_Zr
 unfold s_Zr at h
 obtain ⟨hp0,hp1,hp2,hp3,hp4,_⟩ := conj_of hp
 exact ⟨(hp0),(hp1),(hp2),(hp3),(hp4),h⟩
/-- The daily change at a tick,as a quotient. -/
def v_pi (b:Int×List (Int×Int)) (t:Int):Nat := max 1 (v_pos t b.2)
def v_cd (b:Int×List (Int×Int)) (t:Int):Int := (b.2.getD (v_pi b t) (0,0)).1 - (b.2.getD (v_pi b t - 1) (0,0)).1
def v_cn (b:Int×List (Int×Int)) (t:Int):Int := ((b.2.getD (v_pi b t - 1) (0,0)).2 - b.1) * v_cd b t + ((b.2.getD (v_pi b t) (0,0)).2 - (b.2.getD (v_pi b t - 1) (0,0)).2) * (t - (b.2.getD (v_pi b t - 1) (0,0)).1)
theorem v_bok.asl {b:Int×List (Int×Int)} (h:v_bok b):v_asl b.2 := ⟨h.len,h.asc⟩
theorem v_pi_at {b:Int×List (Int×Int)} {t:Int} (h:v_bok b) (hw:v_iw b t = true):(1≤v_pi b t∧v_pi b t < b.2.length)∧(b.2.getD (v_pi b t - 1) (0,0)).1≤t∧t≤(b.2.getD (v_pi b t) (0,0)).1 := by
 have h2 := h.two
 have hb := tx_within.1 hw
 have hle := v_pos_le t b.2
 have hlt:v_pos t b.2 < b.2.length := by
  rcases Nat.lt_or_ge (v_pos t b.2) b.2.length with g | g
  ·exact g
  ·have := v_pos_lt (t := t) (l := b.2) (k := b.2.length - 1) (by omega)
   omega
 have ha := v_pos_at (t := t) hlt
 unfold v_pi
 refine ⟨by omega,?_,?_⟩
 ·rcases Nat.eq_zero_or_pos (v_pos t b.2) with z | z
  ·rw [z,show max 1 0 - 1 = 0 from rfl]; exact hb.1
  ·have := v_pos_lt (t := t) (l := b.2) (k := v_pos t b.2 - 1) (by omega)
   rw [show max 1 (v_pos t b.2) - 1 = v_pos t b.2 - 1 by omega]; omega
 ·exact v_pos_ge h.asl _ (by omega) (by omega)
/-- What the parts of a change are bounded by. -/
structure v_chb (b:Int×List (Int×Int)) (t:Int):Prop where
 i:1≤v_pi b t∧v_pi b t < b.2.length
 w:(b.2.getD (v_pi b t - 1) (0,0)).1≤t∧t≤(b.2.getD (v_pi b t) (0,0)).1
 d:0 < v_cd b t∧v_cd b t≤1000000000000
 n : -400000000000000000≤v_cn b t∧v_cn b t≤400000000000000000
 a : -200000000000000000≤((b.2.getD (v_pi b t - 1) (0,0)).2 - b.1) * v_cd b t∧((b.2.getD (v_pi b t - 1) (0,0)).2 - b.1) * v_cd b t≤200000000000000000
 m : -200000000000000000≤((b.2.getD (v_pi b t) (0,0)).2 - (b.2.getD (v_pi b t - 1) (0,0)).2) * (t - (b.2.getD (v_pi b t - 1) (0,0)).1)∧((b.2.getD (v_pi b t) (0,0)).2 - (b.2.getD (v_pi b t - 1) (0,0)).2) * (t - (b.2.getD (v_pi b t - 1) (0,0)).1)≤200000000000000000
theorem v_chb_of {b:Int×List (Int×Int)} {t:Int} (h:v_bok b) (hw:v_iw b t = true):v_chb b t := by
 obtain ⟨i,w⟩ := v_pi_at h hw
 have o1 := h.ok _ i.2
 have o2 := h.ok (v_pi b t - 1) (by omega)
 have ha := h.asc _ i.1 i.2
 have hd := h.d
 have d:0 < v_cd b t∧v_cd b t≤1000000000000 := by unfold v_cd; omega
 have a := mul_abs (x := (b.2.getD (v_pi b t - 1) (0,0)).2 - b.1) (y := v_cd b t) (a := 200000) (b := 1000000000000) (by omega) (by omega) (by omega) (by omega)
 have m := mul_abs (x := (b.2.getD (v_pi b t) (0,0)).2 - (b.2.getD (v_pi b t - 1) (0,0)).2) (y := t - (b.2.getD (v_pi b t - 1) (0,0)).1) (a := 200000) (b := 1000000000000) (by omega) (by omega) (by omega) (by omega)
 refine ⟨i,w,d,?_,by omega,by omega⟩
 unfold v_cn
 omega
abbrev t_Zr (p0:Int×List (Int×Int)) (p1:Int):Int×Int := (v_cn p0 p1,v_cd p0 p1)
abbrev qre_Zr (p0:Int×List (Int×Int)) (p1:Int):List Prop := [v_bok p0,v_iw p0 p1 = true]
theorem pp_Zr (p0:Int×List (Int×Int)) (p1:Int) (hq:∀ p∈qre_Zr p0 p1,p):∀ p∈pre_Zr p0 p1,p := by
 obtain ⟨h1,h2,_⟩ := conj_of hq
 have c := v_chb_of h1 h2
 have ci := c.i
 have hl := h1.len
 have hp := v_pos_le p1 p0.2
 have w1:IntKind.i64.wrap ((v_pos p1 p0.2:Int) - 1)=(v_pos p1 p0.2:Int) - 1 := wrap_id (by omega) (by omega)
 simp only [pre_Zr,fM,w1]
 unfold v_pi at ci
 exact ⟨h1.asl,by omega,by omega,by omega,by omega,by simp⟩
theorem tt_Zr (p0:Int×List (Int×Int)) (p1:Int) (hq:∀ p∈qre_Zr p0 p1,p):s_Zr p0 p1 = t_Zr p0 p1 := by
 obtain ⟨h1,h2,_⟩ := conj_of hq
 have c := v_chb_of h1 h2
 have ci := c.i
 have hl := h1.len
 have hp := v_pos_le p1 p0.2
 have w1:IntKind.i64.wrap ((v_pos p1 p0.2:Int) - 1)=(v_pos p1 p0.2:Int) - 1 := wrap_id (by omega) (by omega)
 have n1:(max 0 ((v_pos p1 p0.2:Int) - 1)).toNat = v_pi p0 p1 - 1 := by unfold v_pi; omega
 have n2:(max 1 (v_pos p1 p0.2:Int)).toNat = v_pi p0 p1 := by unfold v_pi; omega
 have o1 := h1.ok _ ci.2
 have o2 := h1.ok (v_pi p0 p1 - 1) (by omega)
 have hd := h1.d
 have cw := c.w
 have cd := c.d
 have ca := c.a
 have cm := c.m
 have cn := c.n
 unfold s_Zr t_Zr
 simp only [w1,n1,n2]
 unfold v_cn at cn ⊢
 unfold v_cd at *
 rw [wrap_id (n := (p0.2.getD (v_pi p0 p1 - 1) (0,0)).2 - p0.1) (by omega) (by omega),wrap_id (n := (p0.2.getD (v_pi p0 p1) (0,0)).1 - (p0.2.getD (v_pi p0 p1 - 1) (0,0)).1) (by omega) (by omega),wrap_id (n := (p0.2.getD (v_pi p0 p1) (0,0)).2 - (p0.2.getD (v_pi p0 p1 - 1) (0,0)).2) (by omega) (by omega),wrap_id (n := p1 - (p0.2.getD (v_pi p0 p1 - 1) (0,0)).1) (by omega) (by omega),wrap_id (n := _ * _) (by omega) (by omega),wrap_id (n := _ * _) (by omega) (by omega),wrap_id (by omega) (by omega)]

abbrev con_Zr:Con := ⟨P_Zr,R_Zr,fun x => qre_Zr x.1 x.2,fun x => t_Zr x.1 x.2⟩
theorem ok_Zr:ConOk Tryz.prog 38 con_Zr := okG k_Zr e_Zr hC_Zr fun x hx => tf_of (w_Zr_eq x.1 x.2 _) (d_Zr x.1 x.2 _ (pp_Zr x.1 x.2 hx) (tt_Zr x.1 x.2 hx))
def C_Z1g:Cons := [(8,[],con_Z7)]
theorem hC_Z1g:ConsOk Tryz.prog C_Z1g := cC ok_Z7 <| ConsOk.nil
def w_Z1g (p0:(Int×(List (Int×Int)))) (K:((Int×(List (Int×Int)))×Int)→Prop):Prop := (K (p0,(v_cb p0).2))
theorem w_Z1g_eq (p0:(Int×(List (Int×Int)))) (K:((Int×(List (Int×Int)))×Int)→Prop):tfn F_Z1g A_Z1g C_Z1g P_Z1g R_Z1g p0 K = w_Z1g p0 K := by kernel_rfl
def s_Z1g (p0:(Int×(List (Int×Int)))):((Int×(List (Int×Int)))×Int) := (p0,(v_cb p0).2)
abbrev pre_Z1g (_p0:(Int×(List (Int×Int)))):List Prop := []
theorem d_Z1g (p0:(Int×(List (Int×Int)))) (K:((Int×(List (Int×Int)))×Int)→Prop) (_hp:∀ p∈pre_Z1g p0,p) (h:K (s_Z1g p0)):w_Z1g p0 K := by
 unfold w_Z1g
 unfold s_Z1g at h
 exact h
abbrev con_Z1g:Con := ⟨P_Z1g,R_Z1g,fun x => pre_Z1g x,fun x => s_Z1g x⟩
theorem ok_Z1g:ConOk Tryz.prog 35 con_Z1g := okG k_Z1g e_Z1g hC_Z1g fun x hx => tf_of (w_Z1g_eq x _) (d_Z1g x _ hx rfl)
def C_Zs:Cons := []
theorem hC_Zs:ConsOk Tryz.prog C_Zs := ConsOk.nil
def w_Zs (p0:Int) (p1:Int) (K:(Int×Int)→Prop):Prop := ((p1 ≠ zz0) ∧((p1 ≠ zz0) ∧((((decide ((Int.tmod p0 p1) < 0))=true) →(((((IntKind.i64.wrap ((IntKind.i64.wrap ((IntKind.i64.wrap (Int.tdiv p0 p1)) - 1)) * p1)) != p0)=true) →(K ((IntKind.i64.wrap ((IntKind.i64.wrap (Int.tdiv p0 p1)) - 1)),(IntKind.i64.wrap ((IntKind.i64.wrap ((IntKind.i64.wrap (Int.tdiv p0 p1)) - 1)) + 1))))) ∧((((IntKind.i64.wrap ((IntKind.i64.wrap ((IntKind.i64.wrap (Int.tdiv p0 p1)) - 1)) * p1)) != p0)=false) →(K ((IntKind.i64.wrap ((IntKind.i64.wrap (Int.tdiv p0 p1)) - 1)),(IntKind.i64.wrap ((IntKind.i64.wrap (Int.tdiv p0 p1)) - 1))))))) ∧(((decide ((Int.tmod p0 p1) < 0))=false) →(((((IntKind.i64.wrap ((IntKind.i64.wrap (Int.tdiv p0 p1)) * p1)) != p0)=true) →(K ((IntKind.i64.wrap (Int.tdiv p0 p1)),(IntKind.i64.wrap ((IntKind.i64.wrap (Int.tdiv p0 p1)) + 1))))) ∧((((IntKind.i64.wrap ((IntKind.i64.wrap (Int.tdiv p0 p1)) * p1)) != p0)=false) →(K ((IntKind.i64.wrap (Int.tdiv p0 p1)),(IntKind.i64.wrap (Int.tdiv p0 p1))))))))))
theorem w_Zs_eq (p0:Int) (p1:Int) (K:(Int×Int)→Prop):tfn F_Zs A_Zs C_Zs P_Zs R_Zs (p0,p1) K = w_Zs p0 p1 K := by kernel_rfl
def s_Zs (p0:Int) (p1:Int):(Int×Int) := (cond (decide ((Int.tmod p0 p1) < 0)) (cond ((IntKind.i64.wrap ((IntKind.i64.wrap ((IntKind.i64.wrap (Int.tdiv p0 p1)) - 1)) * p1)) != p0) ((IntKind.i64.wrap ((IntKind.i64.wrap (Int.tdiv p0 p1)) - 1)),(IntKind.i64.wrap ((IntKind.i64.wrap ((IntKind.i64.wrap (Int.tdiv p0 p1)) - 1)) + 1))) ((IntKind.i64.wrap ((IntKind.i64.wrap (Int.tdiv p0 p1)) - 1)),(IntKind.i64.wrap ((IntKind.i64.wrap (Int.tdiv p0 p1)) - 1)))) (cond ((IntKind.i64.wrap ((IntKind.i64.wrap (Int.tdiv p0 p1)) * p1)) != p0) ((IntKind.i64.wrap (Int.tdiv p0 p1)),(IntKind.i64.wrap ((IntKind.i64.wrap (Int.tdiv p0 p1)) + 1))) ((IntKind.i64.wrap (Int.tdiv p0 p1)),(IntKind.i64.wrap (Int.tdiv p0 p1)))))
abbrev pre_Zs (_p0:Int) (p1:Int):List Prop := [(p1 ≠ (0:Int))]
theorem d_Zs (p0:Int) (p1:Int) (K:(Int×Int)→Prop) (hp:∀ p∈pre_Zs p0 p1,p) (h:K (s_Zs p0 p1)):w_Zs p0 p1 K := by
 unfold w_Zs
 unfold s_Zs at h
 obtain ⟨hp0,_⟩ := conj_of hp
 exact ⟨(hp0),(hp0),(br' h (fun e0 h => (br' h (fun e1 h => h)
  (fun e1 h => h)))
  (fun e0 h => (br' h (fun e2 h => h)
  (fun e2 h => h))))⟩
abbrev t_Zs (p0:Int) (p1:Int):Int×Int := (p0 / p1,v_ceil p0 p1)
abbrev qre_Zs (p0:Int) (p1:Int):List Prop := [-4611686018427387904≤p0∧p0≤4611686018427387904,0 < p1∧p1≤4611686018427387904]
theorem pp_Zs (p0:Int) (p1:Int) (hq:∀ p∈qre_Zs p0 p1,p):∀ p∈pre_Zs p0 p1,p := by
 obtain ⟨h1,h2,_⟩ := conj_of hq
 simp only [pre_Zs,fM]
 exact ⟨by omega,by simp⟩
theorem tt_Zs (p0:Int) (p1:Int) (hq:∀ p∈qre_Zs p0 p1,p):s_Zs p0 p1 = t_Zs p0 p1 := by
 obtain ⟨h1,h2,_⟩ := conj_of hq
 have hf := floor_is (n := p0) (b := p1) ⟨by omega,by omega⟩ h2.1
 have m1 := Int.mul_ediv_add_emod p0 p1
 have m2 := Int.emod_nonneg p0 (show p1 ≠ 0 by omega)
 have m3 := Int.emod_lt_of_pos p0 h2.1
 have m4:p1 * (p0 / p1)=p0 / p1 * p1 := Int.mul_comm _ _
 have hd:(p0 / p1).natAbs≤p0.natAbs := Int.natAbs_ediv_le_natAbs _ _
 have w1:IntKind.i64.wrap (p0 / p1 * p1)=p0 / p1 * p1 := wrap_id (by omega) (by omega)
 have w2:IntKind.i64.wrap (p0 / p1 + 1)=p0 / p1 + 1 := wrap_id (by omega) (by omega)
 have hc:v_ceil p0 p1 = cond ((p0 / p1 * p1) != p0) (p0 / p1 + 1) (p0 / p1) := by
  unfold v_ceil
  by_cases e:p0 / p1 * p1 = p0
  ·rw [bne_eq_false_iff_eq.2 e,cond_false]
   have := ((Int.ediv_emod_unique (a := -p0) (b := p1) (q := -(p0 / p1)) (r := 0) h2.1).2 ⟨by rw [Int.mul_neg]; omega,by omega,h2.1⟩).1
   omega
  ·rw [bne_iff_ne.2 e,cond_true]
   have := ((Int.ediv_emod_unique (a := -p0) (b := p1) (q := -(p0 / p1) - 1) (r := p1 - p0 % p1) h2.1).2 ⟨by rw [Int.mul_sub,Int.mul_neg,Int.mul_one]; omega,by omega,by omega⟩).1
   omega
 unfold s_Zs t_Zs
 cases c:decide (p0.tmod p1 < 0) <;> rw [c] at hf <;> simp only [cond_true,cond_false] at hf ⊢ <;> rw [hf,w1,w2,hc] <;> cases (p0 / p1 * p1 != p0) <;> rfl

abbrev con_Zs:Con := ⟨P_Zs,R_Zs,fun x => qre_Zs x.1 x.2,fun x => t_Zs x.1 x.2⟩
theorem ok_Zs:ConOk Tryz.prog 37 con_Zs := okG k_Zs e_Zs hC_Zs fun x hx => tf_of (w_Zs_eq x.1 x.2 _) (d_Zs x.1 x.2 _ (pp_Zs x.1 x.2 hx) (tt_Zs x.1 x.2 hx))
def C_Zu:Cons := [(35,[],con_Z1g),(36,[],con_Zq),(32,[],con_Z6),(38,[],con_Zr),(37,[],con_Zs)]
theorem hC_Zu:ConsOk Tryz.prog C_Zu := cC ok_Z1g <| cC ok_Zq <| cC ok_Z6 <| cC ok_Zr <| cC ok_Zs <| ConsOk.nil
def w_Zu (p0:(Int×(List (Int×Int)))) (p1:Int) (K:((Int×Int)×Int)→Prop):Prop := (((((v_cb p0).2 == 0)=true) →((0 < p0.2.length) ∧((p0.2.length≤1000) ∧(((((s_Z6 (v_iw p0 p1) (2:Int)) != 0)=true) →(K ((zz0,zz0),(s_Z6 (v_iw p0 p1) (2:Int))))) ∧((((s_Z6 (v_iw p0 p1) (2:Int)) != 0)=false) →((v_bok p0) ∧(((v_iw p0 p1)=true) ∧((((-4611686018427387904:Int)≤(v_cn p0 p1)) ∧((v_cn p0 p1)≤4611686018427387904)) ∧(((zz0 < (v_cd p0 p1)) ∧((v_cd p0 p1)≤4611686018427387904)) ∧(K ((((v_cn p0 p1) / (v_cd p0 p1)),(v_ceil (v_cn p0 p1) (v_cd p0 p1))),zz0))))))))))) ∧((((v_cb p0).2 == 0)=false) →(((((v_cb p0).2 != 0)=true) →(K ((zz0,zz0),(v_cb p0).2))) ∧((((v_cb p0).2 != 0)=false) →((v_bok p0) ∧(((v_iw p0 p1)=true) ∧((((-4611686018427387904:Int)≤(v_cn p0 p1)) ∧((v_cn p0 p1)≤4611686018427387904)) ∧(((zz0 < (v_cd p0 p1)) ∧((v_cd p0 p1)≤4611686018427387904)) ∧(K ((((v_cn p0 p1) / (v_cd p0 p1)),(v_ceil (v_cn p0 p1) (v_cd p0 p1))),zz0))))))))))
theorem w_Zu_eq (p0:(Int×(List (Int×Int)))) (p1:Int) (K:((Int×Int)×Int)→Prop):tfn F_Zu A_Zu C_Zu P_Zu R_Zu (p0,p1) K = w_Zu p0 p1 K := by kernel_rfl
def s_Zu (p0:(Int×(List (Int×Int)))) (p1:Int):((Int×Int)×Int) := (cond ((v_cb p0).2 == 0) (cond ((s_Z6 (v_iw p0 p1) (2:Int)) != 0) ((0,0),(s_Z6 (v_iw p0 p1) (2:Int))) ((((v_cn p0 p1) / (v_cd p0 p1)),(v_ceil (v_cn p0 p1) (v_cd p0 p1))),(0:Int))) (cond ((v_cb p0).2 != 0) ((0,0),(v_cb p0).2) ((((v_cn p0 p1) / (v_cd p0 p1)),(v_ceil (v_cn p0 p1) (v_cd p0 p1))),(0:Int))))
abbrev pre_Zu (p0:(Int×(List (Int×Int)))) (p1:Int):List Prop := [((((v_cb p0).2 == 0)=true)→(0 < p0.2.length)),((((v_cb p0).2 == 0)=true)→(p0.2.length≤1000)),((((v_cb p0).2 == 0)=true)→((((s_Z6 (v_iw p0 p1) (2:Int)) != 0)=false)→(v_bok p0))),((((v_cb p0).2 == 0)=true)→((((s_Z6 (v_iw p0 p1) (2:Int)) != 0)=false)→((v_iw p0 p1)=true))),((((v_cb p0).2 == 0)=true)→((((s_Z6 (v_iw p0 p1) (2:Int)) != 0)=false)→(((-4611686018427387904:Int)≤(v_cn p0 p1))∧((v_cn p0 p1)≤4611686018427387904)))),((((v_cb p0).2 == 0)=true)→((((s_Z6 (v_iw p0 p1) (2:Int)) != 0)=false)→(((0:Int) < (v_cd p0 p1))∧((v_cd p0 p1)≤4611686018427387904)))),((((v_cb p0).2 == 0)=false)→((((v_cb p0).2 != 0)=false)→(v_bok p0))),((((v_cb p0).2 == 0)=false)→((((v_cb p0).2 != 0)=false)→((v_iw p0 p1)=true))),((((v_cb p0).2 == 0)=false)→((((v_cb p0).2 != 0)=false)→(((-4611686018427387904:Int)≤(v_cn p0 p1))∧((v_cn p0 p1)≤4611686018427387904)))),((((v_cb p0).2 == 0)=false)→((((v_cb p0).2 != 0)=false)→(((0:Int) < (v_cd p0 p1))∧((v_cd p0 p1)≤4611686018427387904))))]
theorem d_Zu (p0:(Int×(List (Int×Int)))) (p1:Int) (K:((Int×Int)×Int)→Prop) (hp:∀ p∈pre_Zu p0 p1,p) (h:K (s_Zu p0 p1)):w_Zu p0 p1 K := by
 unfold w_Zu
 unfold s_Zu at h
 obtain ⟨hp0,hp1,hp2,hp3,hp4,hp5,hp6,hp7,hp8,hp9,_⟩ := conj_of hp
 exact (br' h (fun e0 h => ⟨(hp0 e0),(hp1 e0),(br' h (fun e1 h => h)
  (fun e1 h => ⟨(hp2 e0 e1),(hp3 e0 e1),(hp4 e0 e1),(hp5 e0 e1),h⟩))⟩)
  (fun e0 h => (br' h (fun e2 h => h)
  (fun e2 h => ⟨(hp6 e0 e2),(hp7 e0 e2),(hp8 e0 e2),(hp9 e0 e2),h⟩))))
/-- What ChangeAt answers. -/
def v_chr (b:Int×List (Int×Int)) (t:Int):Int×Int := (v_cn b t / v_cd b t,v_ceil (v_cn b t) (v_cd b t))
def v_cha (b:Int×List (Int×Int)) (t:Int):(Int×Int)×Int := cond ((v_cb b).2 != 0) ((0,0),(v_cb b).2) (cond (v_iw b t) (v_chr b t,0) ((0,0),2))
abbrev t_Zu (p0:Int×List (Int×Int)) (p1:Int):(Int×Int)×Int := v_cha p0 p1
abbrev qre_Zu (_p0:Int×List (Int×Int)) (_p1:Int):List Prop := []
theorem pp_Zu (p0:Int×List (Int×Int)) (p1:Int) (_hq:∀ p∈qre_Zu p0 p1,p):∀ p∈pre_Zu p0 p1,p := by
 simp only [pre_Zu,fM]
 rcases int0 (v_cb p0).2 with ⟨z1,e1,e2⟩ | ⟨z1,e1,e2⟩
 ·have h := v_cb_ok z1
  have h2 := h.two
  have h3 := h.len
  cases c:v_iw p0 p1
  ·simp [z1,tx_unless,c]
   omega
  ·have k := v_chb_of h c
   have kn := k.n
   have kd := k.d
   simp [z1,tx_unless,c,h]
   omega
 ·simp [e1,e2]
theorem tt_Zu (p0:Int×List (Int×Int)) (p1:Int) (_hq:∀ p∈qre_Zu p0 p1,p):s_Zu p0 p1 = t_Zu p0 p1 := by
 unfold s_Zu t_Zu v_cha v_chr
 rcases int0 (v_cb p0).2 with ⟨z1,e1,e2⟩ | ⟨z1,e1,e2⟩
 ·cases c:v_iw p0 p1 <;> simp [z1,tx_unless]
 ·simp [e1,e2]

abbrev con_Zu:Con := ⟨P_Zu,R_Zu,fun x => qre_Zu x.1 x.2,fun x => t_Zu x.1 x.2⟩
theorem ok_Zu:ConOk Tryz.prog 10 con_Zu := okG k_Zu e_Zu hC_Zu fun x hx => tf_of (w_Zu_eq x.1 x.2 _) (d_Zu x.1 x.2 _ (pp_Zu x.1 x.2 hx) (tt_Zu x.1 x.2 hx))
def C_Z1r:Cons := []
theorem hC_Z1r:ConsOk Tryz.prog C_Z1r := ConsOk.nil
def w_Z1r (p0:(List (Int×(Int×(Int×(Int×Int)))))) (K:(List (Int×(Int×(Int×(Int×Int)))))→Prop):Prop := (((((List.length ([]:List (Int×(Int×(Int×(Int×Int)))))) + p0.length) * 40)≤140737488355328) ∧(K (([]:List (Int×(Int×(Int×(Int×Int))))) ++ p0)))
theorem w_Z1r_eq (p0:(List (Int×(Int×(Int×(Int×Int)))))) (K:(List (Int×(Int×(Int×(Int×Int)))))→Prop):tfn F_Z1r A_Z1r C_Z1r P_Z1r R_Z1r p0 K = w_Z1r p0 K := by kernel_rfl
def s_Z1r (p0:(List (Int×(Int×(Int×(Int×Int)))))):(List (Int×(Int×(Int×(Int×Int))))) := (([]:List (Int×(Int×(Int×(Int×Int))))) ++ p0)
abbrev pre_Z1r (p0:(List (Int×(Int×(Int×(Int×Int)))))):List Prop := [((((List.length ([]:List (Int×(Int×(Int×(Int×Int)))))) + p0.length) * 40)≤140737488355328)]
theorem d_Z1r (p0:(List (Int×(Int×(Int×(Int×Int)))))) (K:(List (Int×(Int×(Int×(Int×Int)))))→Prop) (hp:∀ p∈pre_Z1r p0,p) (h:K (s_Z1r p0)):w_Z1r p0 K := by
 unfold w_Z1r
 unfold s_Z1r at h
 obtain ⟨hp0,_⟩ := conj_of hp
 exact ⟨(hp0),h⟩
abbrev con_Z1r:Con := ⟨P_Z1r,R_Z1r,fun x => pre_Z1r x,fun x => s_Z1r x⟩
theorem ok_Z1r:ConOk Tryz.prog 12 con_Z1r := okG k_Z1r e_Z1r hC_Z1r fun x hx => tf_of (w_Z1r_eq x _) (d_Z1r x _ hx rfl)
def C_Z1i:Cons := [(87,[],con_Z2)]
theorem hC_Z1i:ConsOk Tryz.prog C_Z1i := cC ok_Z2 <| ConsOk.nil
def w_Z1i (p0:(List (Int×(Int×(Int×(Int×Int)))))) (K:Int→Prop):Prop := (K (v_cs p0).2)
theorem w_Z1i_eq (p0:(List (Int×(Int×(Int×(Int×Int)))))) (K:Int→Prop):tfn F_Z1i A_Z1i C_Z1i P_Z1i R_Z1i p0 K = w_Z1i p0 K := by kernel_rfl
def s_Z1i (p0:(List (Int×(Int×(Int×(Int×Int)))))):Int := (v_cs p0).2
abbrev pre_Z1i (_p0:(List (Int×(Int×(Int×(Int×Int)))))):List Prop := []
theorem d_Z1i (p0:(List (Int×(Int×(Int×(Int×Int)))))) (K:Int→Prop) (_hp:∀ p∈pre_Z1i p0,p) (h:K (s_Z1i p0)):w_Z1i p0 K := by
 unfold w_Z1i
 unfold s_Z1i at h
 exact h
abbrev con_Z1i:Con := ⟨P_Z1i,R_Z1i,fun x => pre_Z1i x,fun x => s_Z1i x⟩
theorem ok_Z1i:ConOk Tryz.prog 39 con_Z1i := okG k_Z1i e_Z1i hC_Z1i fun x hx => tf_of (w_Z1i_eq x _) (d_Z1i x _ hx rfl)
def C_Z8:Cons := [(35,[],con_Z1g),(39,[],con_Z1i),(31,[],con_Zh),(36,[],con_Zq),(38,[],con_Zr),(37,[],con_Zs)]
theorem hC_Z8:ConsOk Tryz.prog C_Z8 := cC ok_Z1g <| cC ok_Z1i <| cC ok_Zh <| cC ok_Zq <| cC ok_Zr <| cC ok_Zs <| ConsOk.nil
abbrev q0_Z8 (p1:(List (Int×(Int×(Int×(Int×Int)))))) (y1:(Int×(List (Int×Int)))) := (p1.getD y1.1.toNat (zz0,(zz0,(zz0,(zz0,zz0)))))
abbrev q1_Z8 (p0:(Int×(List (Int×Int)))) (p1:(List (Int×(Int×(Int×(Int×Int)))))) (y1:(Int×(List (Int×Int)))) := ((q0_Z8 p1 y1).2.2.2.2 * (v_cd p0 (q0_Z8 p1 y1).1))
def w_Z8 (p0:(Int×(List (Int×Int)))) (p1:(List (Int×(Int×(Int×(Int×Int)))))) (K:((List (Int×Int))×Int)→Prop):Prop := ((lenOk ((v_cb p0).2 :: ((v_cs p1).2 :: ([]:List Int)))) ∧(((((v_first ((v_cb p0).2 :: ((v_cs p1).2 :: ([]:List Int)))) != zz0)=true) →(K (([]:List (Int×Int)),(v_first ((v_cb p0).2 :: ((v_cs p1).2 :: ([]:List Int))))))) ∧((((v_first ((v_cb p0).2 :: ((v_cs p1).2 :: ([]:List Int)))) != zz0)=false) →(∃ n0,(loopP (fun (y1:(Int×(List (Int×Int)))) k2 => ((((decide (y1.1 < (p1.length:Int)))=true) →((zz0≤y1.1) ∧((y1.1 < (p1.length:Int)) ∧((0 < p0.2.length) ∧((p0.2.length≤1000) ∧((((!(v_iw p0 (q0_Z8 p1 y1).1))=true) →(K (([]:List (Int×Int)),(14:Int)))) ∧(((!(v_iw p0 (q0_Z8 p1 y1).1))=false) →((v_bok p0) ∧(((v_iw p0 (q0_Z8 p1 y1).1)=true) ∧((((-4611686018427387904:Int)≤(wi ((wi (q1_Z8 p0 p1 y1)) - (v_cn p0 (q0_Z8 p1 y1).1)))) ∧((wi ((wi (q1_Z8 p0 p1 y1)) - (v_cn p0 (q0_Z8 p1 y1).1)))≤4611686018427387904)) ∧(((zz0 < (v_cd p0 (q0_Z8 p1 y1).1)) ∧((v_cd p0 (q0_Z8 p1 y1).1)≤4611686018427387904)) ∧((((y1.2.length + (List.length ((((wi ((wi (q1_Z8 p0 p1 y1)) - (v_cn p0 (q0_Z8 p1 y1).1))) / (v_cd p0 (q0_Z8 p1 y1).1)),(v_ceil (wi ((wi (q1_Z8 p0 p1 y1)) - (v_cn p0 (q0_Z8 p1 y1).1))) (v_cd p0 (q0_Z8 p1 y1).1))) :: ([]:List (Int×Int))))) * 16)≤140737488355328) ∧(k2 ((wi (y1.1 + zz1)),(y1.2 ++ ((((wi ((wi (q1_Z8 p0 p1 y1)) - (v_cn p0 (q0_Z8 p1 y1).1))) / (v_cd p0 (q0_Z8 p1 y1).1)),(v_ceil (wi ((wi (q1_Z8 p0 p1 y1)) - (v_cn p0 (q0_Z8 p1 y1).1))) (v_cd p0 (q0_Z8 p1 y1).1))) :: ([]:List (Int×Int)))))))))))))))))) ∧(((decide (y1.1 < (p1.length:Int)))=false) →(K (y1.2,zz0))))) n0 (zz0,([]:List (Int×Int))))))))
theorem w_Z8_eq (p0:(Int×(List (Int×Int)))) (p1:(List (Int×(Int×(Int×(Int×Int)))))) (K:((List (Int×Int))×Int)→Prop):tfn F_Z8 A_Z8 C_Z8 P_Z8 R_Z8 (p0,p1) K = w_Z8 p0 p1 K := by kernel_rfl
def st_Z8_0 (p0:(Int×(List (Int×Int)))) (p1:(List (Int×(Int×(Int×(Int×Int)))))) (y1:(Int×(List (Int×Int)))):(Int×(List (Int×Int))) ⊕ ((List (Int×Int))×Int) := (cond (decide (y1.1 < (p1.length:Int))) (cond (!(v_iw p0 (p1.getD y1.1.toNat ((0:Int),((0:Int),((0:Int),(0,0))))).1)) (Sum.inr (([]:List (Int×Int)),(14:Int))) (Sum.inl ((IntKind.i64.wrap (y1.1 + 1)),(y1.2 ++ ((((IntKind.i64.wrap ((IntKind.i64.wrap ((p1.getD y1.1.toNat ((0:Int),((0:Int),((0:Int),(0,0))))).2.2.2.2 * (v_cd p0 (p1.getD y1.1.toNat ((0:Int),((0:Int),((0:Int),(0,0))))).1))) - (v_cn p0 (p1.getD y1.1.toNat ((0:Int),((0:Int),((0:Int),(0,0))))).1))) / (v_cd p0 (p1.getD y1.1.toNat ((0:Int),((0:Int),((0:Int),(0,0))))).1)),(v_ceil (IntKind.i64.wrap ((IntKind.i64.wrap ((p1.getD y1.1.toNat ((0:Int),((0:Int),((0:Int),(0,0))))).2.2.2.2 * (v_cd p0 (p1.getD y1.1.toNat ((0:Int),((0:Int),((0:Int),(0,0))))).1))) - (v_cn p0 (p1.getD y1.1.toNat ((0:Int),((0:Int),((0:Int),(0,0))))).1))) (v_cd p0 (p1.getD y1.1.toNat ((0:Int),((0:Int),((0:Int),(0,0))))).1))) :: ([]:List (Int×Int))))))) (Sum.inr (y1.2,(0:Int))))
abbrev sp_Z8_0 (p0:(Int×(List (Int×Int)))) (p1:(List (Int×(Int×(Int×(Int×Int)))))) (y1:(Int×(List (Int×Int)))):List Prop := [(((decide (y1.1 < (p1.length:Int)))=true)→((0:Int)≤y1.1)),(((decide (y1.1 < (p1.length:Int)))=true)→(y1.1 < (p1.length:Int))),(((decide (y1.1 < (p1.length:Int)))=true)→(0 < p0.2.length)),(((decide (y1.1 < (p1.length:Int)))=true)→(p0.2.length≤1000)),(((decide (y1.1 < (p1.length:Int)))=true)→(((!(v_iw p0 (p1.getD y1.1.toNat ((0:Int),((0:Int),((0:Int),(0,0))))).1))=false)→(v_bok p0))),(((decide (y1.1 < (p1.length:Int)))=true)→(((!(v_iw p0 (p1.getD y1.1.toNat ((0:Int),((0:Int),((0:Int),(0,0))))).1))=false)→((v_iw p0 (p1.getD y1.1.toNat ((0:Int),((0:Int),((0:Int),(0,0))))).1)=true))),(((decide (y1.1 < (p1.length:Int)))=true)→(((!(v_iw p0 (p1.getD y1.1.toNat ((0:Int),((0:Int),((0:Int),(0,0))))).1))=false)→(((-4611686018427387904:Int)≤(IntKind.i64.wrap ((IntKind.i64.wrap ((p1.getD y1.1.toNat ((0:Int),((0:Int),((0:Int),(0,0))))).2.2.2.2 * (v_cd p0 (p1.getD y1.1.toNat ((0:Int),((0:Int),((0:Int),(0,0))))).1))) - (v_cn p0 (p1.getD y1.1.toNat ((0:Int),((0:Int),((0:Int),(0,0))))).1))))∧((IntKind.i64.wrap ((IntKind.i64.wrap ((p1.getD y1.1.toNat ((0:Int),((0:Int),((0:Int),(0,0))))).2.2.2.2 * (v_cd p0 (p1.getD y1.1.toNat ((0:Int),((0:Int),((0:Int),(0,0))))).1))) - (v_cn p0 (p1.getD y1.1.toNat ((0:Int),((0:Int),((0:Int),(0,0))))).1)))≤4611686018427387904)))),(((decide (y1.1 < (p1.length:Int)))=true)→(((!(v_iw p0 (p1.getD y1.1.toNat ((0:Int),((0:Int),((0:Int),(0,0))))).1))=false)→(((0:Int) < (v_cd p0 (p1.getD y1.1.toNat ((0:Int),((0:Int),((0:Int),(0,0))))).1))∧((v_cd p0 (p1.getD y1.1.toNat ((0:Int),((0:Int),((0:Int),(0,0))))).1)≤4611686018427387904)))),(((decide (y1.1 < (p1.length:Int)))=true)→(((!(v_iw p0 (p1.getD y1.1.toNat ((0:Int),((0:Int),((0:Int),(0,0))))).1))=false)→(((y1.2.length + (List.length ((((IntKind.i64.wrap ((IntKind.i64.wrap ((p1.getD y1.1.toNat ((0:Int),((0:Int),((0:Int),(0,0))))).2.2.2.2 * (v_cd p0 (p1.getD y1.1.toNat ((0:Int),((0:Int),((0:Int),(0,0))))).1))) - (v_cn p0 (p1.getD y1.1.toNat ((0:Int),((0:Int),((0:Int),(0,0))))).1))) / (v_cd p0 (p1.getD y1.1.toNat ((0:Int),((0:Int),((0:Int),(0,0))))).1)),(v_ceil (IntKind.i64.wrap ((IntKind.i64.wrap ((p1.getD y1.1.toNat ((0:Int),((0:Int),((0:Int),(0,0))))).2.2.2.2 * (v_cd p0 (p1.getD y1.1.toNat ((0:Int),((0:Int),((0:Int),(0,0))))).1))) - (v_cn p0 (p1.getD y1.1.toNat ((0:Int),((0:Int),((0:Int),(0,0))))).1))) (v_cd p0 (p1.getD y1.1.toNat ((0:Int),((0:Int),((0:Int),(0,0))))).1))) :: ([]:List (Int×Int))))) * 16)≤140737488355328)))]
def s_Z8 (p0:(Int×(List (Int×Int)))) (p1:(List (Int×(Int×(Int×(Int×Int)))))):((List (Int×Int))×Int) := (cond ((v_first ((v_cb p0).2 :: ((v_cs p1).2 :: ([]:List Int)))) != 0) (([]:List (Int×Int)),(v_first ((v_cb p0).2 :: ((v_cs p1).2 :: ([]:List Int))))) (lpv ([],(0:Int)) (st_Z8_0 p0 p1) ((0:Int),([]:List (Int×Int)))))
abbrev pre_Z8 (p0:(Int×(List (Int×Int)))) (p1:(List (Int×(Int×(Int×(Int×Int)))))):List Prop := [((((v_first ((v_cb p0).2 :: ((v_cs p1).2 :: ([]:List Int)))) != 0)=false)→(OkL (st_Z8_0 p0 p1) (sp_Z8_0 p0 p1) ((0:Int),([]:List (Int×Int)))))]
theorem d_Z8 (p0:(Int×(List (Int×Int)))) (p1:(List (Int×(Int×(Int×(Int×Int)))))) (K:((List (Int×Int))×Int)→Prop) (hp:∀ p∈pre_Z8 p0 p1,p) (h:K (s_Z8 p0 p1)):w_Z8 p0 p1 K := by
 unfold w_Z8
 unfold s_Z8 at h
 obtain ⟨hp0,_⟩ := conj_of hp
 exact ⟨(lenOk_of 2 rfl (by decide)),(br' h (fun e0 h => h)
  (fun e0 h => (loop_gen (hp0 e0) h (fun y1 k1 hp h => by
 unfold st_Z8_0 at h; obtain ⟨hp0,hp1,hp2,hp3,hp4,hp5,hp6,hp7,hp8,_⟩ := conj_of hp
 exact (br' h (fun e2 h => ⟨(hp0 e2),(hp1 e2),(hp2 e2),(hp3 e2),(br' h (fun e3 h => h)
  (fun e3 h => ⟨(hp4 e2 e3),(hp5 e2 e3),(hp6 e2 e3),(hp7 e2 e3),(hp8 e2 e3),h⟩))⟩)
  (fun e2 h => h))))))⟩
/-- A corrected reading; all of them,or the error. -/
def v_crn (b:Int×List (Int×Int)) (x:Int×Int×Int×Int×Int):Int := x.2.2.2.2 * v_cd b x.1 - v_cn b x.1
def v_crk (b:Int×List (Int×Int)) (x:Int×Int×Int×Int×Int):Int×Int := (v_crn b x / v_cd b x.1,v_ceil (v_crn b x) (v_cd b x.1))
def v_cor (b:Int×List (Int×Int)):List (Int×Int×Int×Int×Int)→List (Int×Int)→List (Int×Int)×Int
 | [],o => (o,0)
 | x :: r,o => cond (v_iw b x.1) (v_cor b r (o ++ [v_crk b x])) ([],14)
/-- A sample's parts. -/
def v_vin (x:Int×Int×Int×Int×Int):Prop := (0≤x.1∧x.1≤1000000000000)∧-100000≤x.2.2.2.2∧x.2.2.2.2≤100000
theorem v_crn_in {b:Int×List (Int×Int)} {x:Int×Int×Int×Int×Int} (hx:v_vin x) (h:v_chb b x.1):(-100000000000000000≤x.2.2.2.2 * v_cd b x.1∧x.2.2.2.2 * v_cd b x.1≤100000000000000000)∧-500000000000000000≤v_crn b x∧v_crn b x≤500000000000000000 := by
 have d := h.d
 have n := h.n
 have m := mul_abs (x := x.2.2.2.2) (y := v_cd b x.1) (a := 100000) (b := 1000000000000) (by have := hx.2; omega) (by have := hx.2; omega) (by omega) (by omega)
 unfold v_crn
 omega
theorem v_smp_vin {l:List (Int×Int×Int×Int×Int)} (h:v_smp l):∀ x∈l,v_vin x := fun x hx => by
 have g := h.ok x hx
 exact ⟨g.t,g.v.1,g.v.2⟩
theorem l_Z8_0 (p0:Int×List (Int×Int)) (p1:List (Int×Int×Int×Int×Int)) (h:v_bok p0) (hs:v_smp p1):OkL (st_Z8_0 p0 p1) (sp_Z8_0 p0 p1) (0,[])∧lpv ([],0) (st_Z8_0 p0 p1) (0,[])=v_cor p0 p1 [] := by
 have hl := hs.len
 have h2 := h.two
 have h3 := h.len
 refine list_is (fun i (t:gC) => (i,t)) p1 (0,0,0,0,0) (fun r t => (∀ x∈r,v_vin x)∧t.length + r.length≤20) (fun r t => v_cor p0 r t) (by unfold lenOk; omega) ?_ ?_ [] ⟨v_smp_vin hs,by simp only [List.length_nil]; omega⟩
 ·rintro t ⟨_,g⟩
  simp only [sp_Z8_0,st_Z8_0,fM,decide_eq_false (Int.lt_irrefl (p1.length:Int)),cond_false]
  refine ⟨?_,by first | rfl | trivial⟩
  and_intros
  all_goals first
   | (intro h; cases h; done)
   | (intro p hp; cases hp)
 ·rintro j t hj ⟨g1,g2⟩
  have hx := g1 _ List.mem_cons_self
  rw [List.length_cons] at g2
  generalize gx:p1.getD j (0,0,0,0,0)=x at *
  have hw1:IntKind.i64.wrap ((j:Int) + 1)=((j + 1:Nat):Int) := wrap_id (by omega) (by omega)
  have hd:decide ((j:Int) < (p1.length:Int))=true := decide_eq_true (by omega)
  cases c:v_iw p0 x.1
  ·simp only [sp_Z8_0,st_Z8_0,fM,hd,cond_true,Int.toNat_natCast,hw1,gx,c,Bool.not_false]
   refine ⟨⟨fun _ => (by omega),fun _ => (by omega),fun _ => (by omega),fun _ => (by omega),fun _ e => (by cases e),fun _ e => (by cases e),fun _ e => (by cases e),fun _ e => (by cases e),fun _ e => (by cases e),fun p hp => by cases hp⟩,?_⟩
   ·simp only [v_cor,c,cond_false]; exact .inr (by first | rfl | trivial)
  ·have k := v_chb_of h c
   have kd := k.d
   obtain ⟨m1,m2⟩ := v_crn_in hx k
   have hw2:IntKind.i64.wrap (x.2.2.2.2 * v_cd p0 x.1)=x.2.2.2.2 * v_cd p0 x.1 := wrap_id (by omega) (by omega)
   have hw3:IntKind.i64.wrap (x.2.2.2.2 * v_cd p0 x.1 - v_cn p0 x.1)=v_crn p0 x := wrap_id (by show _≤v_crn p0 x; omega) (by show v_crn p0 x≤_; omega)
   simp only [sp_Z8_0,st_Z8_0,fM,hd,cond_true,Int.toNat_natCast,hw1,gx,c,Bool.not_true,cond_false,hw2,hw3]
   refine ⟨⟨fun _ => (by omega),fun _ => (by omega),fun _ => (by omega),fun _ => (by omega),fun _ _ => h,fun _ _ => (by first | exact c | trivial),fun _ _ => (by omega),fun _ _ => (by omega),fun _ _ => (by simp only [List.length_cons,List.length_nil]; omega),fun p hp => by cases hp⟩,.inl ⟨t ++ [v_crk p0 x],rfl,⟨fun y hy => g1 y (List.mem_cons_of_mem _ hy),by rw [List.length_append,List.length_singleton]; omega⟩,?_⟩⟩
   simp only [v_cor,c,cond_true]
def v_coe (b:Int×List (Int×Int)) (l:List (Int×Int×Int×Int×Int)):Int := v_first [(v_cb b).2,(v_cs l).2]
def v_coo (b:Int×List (Int×Int)) (l:List (Int×Int×Int×Int×Int)):List (Int×Int)×Int := cond (v_coe b l != 0) ([],v_coe b l) (v_cor b l [])
theorem v_coe_ok {b:Int×List (Int×Int)} {l:List (Int×Int×Int×Int×Int)} (h:(v_coe b l != 0)=false):v_bok b∧v_smp l := by
 unfold v_coe at h
 obtain ⟨h1,h2⟩ := v_first0 (bne0' h)
 exact ⟨v_cb_ok h1,v_cs_iff.1 (v_first0 h2).1⟩
abbrev t_Z8 (p0:Int×List (Int×Int)) (p1:List (Int×Int×Int×Int×Int)):List (Int×Int)×Int := v_coo p0 p1
abbrev qre_Z8 (_p0:Int×List (Int×Int)) (_p1:List (Int×Int×Int×Int×Int)):List Prop := []
theorem pp_Z8 (p0:Int×List (Int×Int)) (p1:List (Int×Int×Int×Int×Int)) (_hq:∀ p∈qre_Z8 p0 p1,p):∀ p∈pre_Z8 p0 p1,p := by
 simp only [pre_Z8,fM,show v_first [(v_cb p0).2,(v_cs p1).2]=v_coe p0 p1 from rfl]
 exact ⟨fun e => (l_Z8_0 p0 p1 (v_coe_ok e).1 (v_coe_ok e).2).1,by simp⟩
theorem tt_Z8 (p0:Int×List (Int×Int)) (p1:List (Int×Int×Int×Int×Int)) (_hq:∀ p∈qre_Z8 p0 p1,p):s_Z8 p0 p1 = t_Z8 p0 p1 := by
 unfold s_Z8 t_Z8 v_coo
 simp only [show v_first [(v_cb p0).2,(v_cs p1).2]=v_coe p0 p1 from rfl]
 cases e:(v_coe p0 p1 != 0)
 ·simp only [cond_false]
  exact (l_Z8_0 p0 p1 (v_coe_ok e).1 (v_coe_ok e).2).2
 ·rfl

abbrev con_Z8:Con := ⟨P_Z8,R_Z8,fun x => qre_Z8 x.1 x.2,fun x => t_Z8 x.1 x.2⟩
theorem ok_Z8:ConOk Tryz.prog 11 con_Z8 := okG k_Z8 e_Z8 hC_Z8 fun x hx => tf_of (w_Z8_eq x.1 x.2 _) (d_Z8 x.1 x.2 _ (pp_Z8 x.1 x.2 hx) (tt_Z8 x.1 x.2 hx))
def C_Zv:Cons := [(42,[],con_Z3)]
theorem hC_Zv:ConsOk Tryz.prog C_Zv := cC ok_Z3 <| ConsOk.nil
def w_Zv (p0:(Int×(List (Int×Int)))) (p1:Int) (K:Bool→Prop):Prop := ((zz0 < (p0.2.length:Int)) ∧((zz0≤(IntKind.i64.wrap ((p0.2.length:Int) - 1))) ∧(((IntKind.i64.wrap ((p0.2.length:Int) - 1)) < (p0.2.length:Int)) ∧(K (s_Z3 p1 (p0.2.getD (Int.toNat zz0) (zz0,zz0)).1 (p0.2.getD (Int.toNat (IntKind.i64.wrap ((p0.2.length:Int) - 1))) (zz0,zz0)).1)))))
theorem w_Zv_eq (p0:(Int×(List (Int×Int)))) (p1:Int) (K:Bool→Prop):tfn F_Zv A_Zv C_Zv P_Zv R_Zv (p0,p1) K = w_Zv p0 p1 K := by kernel_rfl
def s_Zv (p0:(Int×(List (Int×Int)))) (p1:Int):Bool := (s_Z3 p1 (p0.2.getD (Int.toNat (0:Int)) (0,0)).1 (p0.2.getD (Int.toNat (IntKind.i64.wrap ((p0.2.length:Int) - 1))) (0,0)).1)
abbrev pre_Zv (p0:(Int×(List (Int×Int)))) (_p1:Int):List Prop := [((0:Int) < (p0.2.length:Int)),((0:Int)≤(IntKind.i64.wrap ((p0.2.length:Int) - 1))),((IntKind.i64.wrap ((p0.2.length:Int) - 1)) < (p0.2.length:Int))]
theorem d_Zv (p0:(Int×(List (Int×Int)))) (p1:Int) (K:Bool→Prop) (hp:∀ p∈pre_Zv p0 p1,p) (h:K (s_Zv p0 p1)):w_Zv p0 p1 K := by
 unfold w_Zv
 unfold s_Zv at h
 obtain ⟨hp0,hp1,hp2,_⟩ := conj_of hp
 exact ⟨(hp0),(hp1),(hp2),h⟩
abbrev t_Zv (p0:Int×List (Int×Int)) (p1:Int):Bool := v_iw p0 p1
abbrev qre_Zv (p0:Int×List (Int×Int)) (_p1:Int):List Prop := [0 < p0.2.length,p0.2.length≤1000]
theorem pp_Zv (p0:Int×List (Int×Int)) (p1:Int) (hq:∀ p∈qre_Zv p0 p1,p):∀ p∈pre_Zv p0 p1,p := by
 obtain ⟨h1,h2,_⟩ := conj_of hq
 have hw:IntKind.i64.wrap ((p0.2.length:Int) - 1)=(p0.2.length:Int) - 1 := wrap_id (by omega) (by omega)
 simp only [pre_Zv,fM,hw]
 exact ⟨by omega,by omega,by omega,by simp⟩
theorem tt_Zv (p0:Int×List (Int×Int)) (p1:Int) (hq:∀ p∈qre_Zv p0 p1,p):s_Zv p0 p1 = t_Zv p0 p1 := by
 obtain ⟨h1,h2,_⟩ := conj_of hq
 have hw:IntKind.i64.wrap ((p0.2.length:Int) - 1)=((p0.2.length - 1:Nat):Int) := by rw [wrap_id (by omega) (by omega)]; omega
 unfold s_Zv t_Zv v_iw
 rw [hw,Int.toNat_natCast]
 rfl

abbrev con_Zv:Con := ⟨P_Zv,R_Zv,fun x => qre_Zv x.1 x.2,fun x => t_Zv x.1 x.2⟩
theorem ok_Zv:ConOk Tryz.prog 14 con_Zv := okG k_Zv e_Zv hC_Zv fun x hx => tf_of (w_Zv_eq x.1 x.2 _) (d_Zv x.1 x.2 _ (pp_Zv x.1 x.2 hx) (tt_Zv x.1 x.2 hx))
end Go.Proofs.YtdkhhafmidokmaaGreat
