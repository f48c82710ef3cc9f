/- What the functions that MagnetLags reaches compute: contracts, each function once. No condition. -/
import Derived.Test.YtdkhhafmidokmaaLayB
import Derived.Test.YtdkhhafmidokmaaAwMMagnetLags
import Derived.KernelRfl
namespace Go.Proofs.Ytdkhhafmidokmaa
open Go Go.Mx
set_option maxRecDepth 100000
set_option maxHeartbeats 4000000
abbrev gF:=List Int
abbrev gG:=Int×Int
abbrev gA:=List (List Int×List Int)
abbrev gB:=List (Int×Int×Int)
abbrev gC:=List (Int×Int)
abbrev gE:=Int×List Int
abbrev gD:=(Int×List Int)×(Int×List Int)
theorem fM.{u} {α:Type u} {p:α→Prop} {a:α} {l:List α}:(∀ x∈a::l,p x) ↔ p a ∧ ∀ x∈l,p x := List.forall_mem_cons
theorem cC {P:Program} {f:FuncId} {ids:List FuncId} {c:Con} {C:Cons} (h:ConOk P f c) (hC:ConsOk P C) (hm:isMark ids=false := by rfl):ConsOk P ((f,ids,c)::C) := ConsOk.cons h hC hm
theorem okG {P:Program} {f:FuncId} {F:TFn} {A:Nat→Ty} {C:Cons} {ps rs:List PSh} {pre:(tyPs ps).den→List Prop} {s:(tyPs ps).den→(tyPs rs).den} (k:callable P f=true) (e:cFn P f=some F.erase) (hC:ConsOk P C) (h:∀ x,(∀ p∈pre x,p)→Tf F A C ps rs x (fun z => z=s x)):ConOk P f ⟨ps,rs,pre,s⟩ := ⟨k,fun x hx => ret_tf e hC (h x hx)⟩
abbrev wi (n:Int):Int := IntKind.i64.wrap n
abbrev zz0:Int := 0
abbrev zz1:Int := 1
abbrev zz2:Int := 2
theorem od {p:Prop} [Decidable p] (h:decide p = true):p := of_decide_eq_true h
theorem nof {p:Prop} (h:false = true):p := Bool.noConfusion h
theorem rf {p:Prop} {α:Sort _} {a:α} (_:p):a = a := rfl

def C_Zu:Cons := []
theorem hC_Zu:ConsOk Try.prog C_Zu := ConsOk.nil
def w_Zu (p0:(List (Int×(Int×(Int×(Int×Int)))))) (K:Bool→Prop):Prop := (K (decide ((p0.length:Int)≤22)))
theorem w_Zu_eq (p0:(List (Int×(Int×(Int×(Int×Int)))))) (K:Bool→Prop):tfn F_Zu A_Zu C_Zu P_Zu R_Zu p0 K = w_Zu p0 K := by kernel_rfl
def s_Zu (p0:(List (Int×(Int×(Int×(Int×Int)))))):Bool := (decide ((p0.length:Int)≤22))
abbrev pre_Zu (_p0:(List (Int×(Int×(Int×(Int×Int)))))):List Prop := []
theorem d_Zu (p0:(List (Int×(Int×(Int×(Int×Int)))))) (K:Bool→Prop) (_hp:∀ p∈pre_Zu p0,p) (h:K (s_Zu p0)):w_Zu p0 K := by
 unfold w_Zu
 unfold s_Zu at h
 exact h
abbrev con_Zu:Con := ⟨P_Zu,R_Zu,fun x => pre_Zu x,fun x => s_Zu x⟩
theorem ok_Zu:ConOk Try.prog 20 con_Zu := okG k_Zu e_Zu hC_Zu fun x hx => tf_of (w_Zu_eq x _) (d_Zu x _ hx rfl)
def C_Zj:Cons := []
theorem hC_Zj:ConsOk Try.prog C_Zj := ConsOk.nil
def w_Zj (p0:gF) (K:(List Int)→Prop):Prop := (((((List.length ([]:List Int)) + p0.length) * 8)≤140737488355328) ∧(K (([]:List Int) ++ p0)))
theorem w_Zj_eq (p0:gF) (K:(List Int)→Prop):tfnO F_Zj A_Zj C_Zj P_Zj E_Zj p0 K = w_Zj p0 K := by kernel_rfl
def s_Zj (p0:gF):(List Int) := (([]:List Int) ++ p0)
abbrev pre_Zj (p0:gF):List Prop := [((((List.length ([]:List Int)) + p0.length) * 8)≤140737488355328)]
theorem d_Zj (p0:gF) (K:(List Int)→Prop) (hp:∀ p∈pre_Zj p0,p) (h:K (s_Zj p0)):w_Zj p0 K := by
 unfold w_Zj
 unfold s_Zj at h
 obtain ⟨hp0,_⟩ := conj_of hp
 exact ⟨(hp0),h⟩
abbrev t_Zj (p0:gF):List Int := p0
abbrev qre_Zj (p0:gF):List Prop := [p0.length≤1000000]
theorem pp_Zj (p0:gF) (hq:∀ p∈qre_Zj p0,p):∀ p∈pre_Zj p0,p := by
 simp only [pre_Zj,fM]
 have := (conj_of hq).1
 exact ⟨by simp; omega,by simp⟩
theorem tt_Zj (p0:gF) (_hq:∀ p∈qre_Zj p0,p):s_Zj p0 = t_Zj p0 := by
 rfl

abbrev con_Zj:Con := ⟨P_Zj,[.one (.sl E_Zj)],fun x => qre_Zj x,fun x => t_Zj x⟩
theorem ok_Zj:ConOOk Try.prog 46 con_Zj := conO_tf (e := E_Zj) (ps := P_Zj) k_Zj e_Zj hC_Zj (fun x hx => tfo_of (w_Zj_eq x (fun z => z = t_Zj x)) (d_Zj x (fun z => z = t_Zj x) (pp_Zj x hx) (tt_Zj x hx)))
def C_Z2:Cons := []
theorem hC_Z2:ConsOk Try.prog C_Z2 := ConsOk.nil
def w_Z2 (p0:Int) (p1:Int) (p2:Int) (K:Bool→Prop):Prop := ((((decide (p1≤p0))=true) →((decide (p1≤p0))=(decide (p1≤p0)))) ∧((((decide (p1≤p0))=true) →((decide (p1≤p0))=(decide (p1≤p0)))) ∧(((decide (p1≤p0))=(decide (p1≤p0))) ∧(K (cond (decide (p1≤p0)) (decide (p0≤p2)) false)))))
theorem w_Z2_eq (p0:Int) (p1:Int) (p2:Int) (K:Bool→Prop):tfn F_Z2 A_Z2 C_Z2 P_Z2 R_Z2 (p0,p1,p2) K = w_Z2 p0 p1 p2 K := by kernel_rfl
def s_Z2 (p0:Int) (p1:Int) (p2:Int):Bool := (cond (decide (p1≤p0)) (decide (p0≤p2)) false)
abbrev pre_Z2 (_p0:Int) (_p1:Int) (_p2:Int):List Prop := []
theorem d_Z2 (p0:Int) (p1:Int) (p2:Int) (K:Bool→Prop) (_hp:∀ p∈pre_Z2 p0 p1 p2,p) (h:K (s_Z2 p0 p1 p2)):w_Z2 p0 p1 p2 K := by
 unfold w_Z2
 unfold s_Z2 at h
 exact ⟨rf,rf,rfl,h⟩
abbrev con_Z2:Con := ⟨P_Z2,R_Z2,fun x => pre_Z2 x.1 x.2.1 x.2.2,fun x => s_Z2 x.1 x.2.1 x.2.2⟩
theorem ok_Z2:ConOk Try.prog 17 con_Z2 := okG k_Z2 e_Z2 hC_Z2 fun x hx => tf_of (w_Z2_eq x.1 x.2.1 x.2.2 _) (d_Z2 x.1 x.2.1 x.2.2 _ hx rfl)
theorem tx_within {n lo hi:Int}:s_Z2 n lo hi = true ↔ lo≤n∧n≤hi := by unfold s_Z2; simp
def C_Z5:Cons := []
theorem hC_Z5:ConsOk Try.prog C_Z5 := ConsOk.nil
def w_Z5 (p0:Int) (p1:Int) (p2:Int) (K:Bool→Prop):Prop := ((((decide (p1≤p0))=true) →((decide (p1≤p0))=(decide (p1≤p0)))) ∧((((decide (p1≤p0))=true) →((decide (p1≤p0))=(decide (p1≤p0)))) ∧(((decide (p1≤p0))=(decide (p1≤p0))) ∧(K (cond (decide (p1≤p0)) (decide (p0≤p2)) false)))))
theorem w_Z5_eq (p0:Int) (p1:Int) (p2:Int) (K:Bool→Prop):tfn F_Z5 A_Z5 C_Z5 P_Z5 R_Z5 (p0,p1,p2) K = w_Z5 p0 p1 p2 K := by kernel_rfl
def s_Z5 (p0:Int) (p1:Int) (p2:Int):Bool := (cond (decide (p1≤p0)) (decide (p0≤p2)) false)
abbrev pre_Z5 (_p0:Int) (_p1:Int) (_p2:Int):List Prop := []
theorem d_Z5 (p0:Int) (p1:Int) (p2:Int) (K:Bool→Prop) (_hp:∀ p∈pre_Z5 p0 p1 p2,p) (h:K (s_Z5 p0 p1 p2)):w_Z5 p0 p1 p2 K := by
 unfold w_Z5
 unfold s_Z5 at h
 exact ⟨rf,rf,rfl,h⟩
abbrev con_Z5:Con := ⟨P_Z5,R_Z5,fun x => pre_Z5 x.1 x.2.1 x.2.2,fun x => s_Z5 x.1 x.2.1 x.2.2⟩
theorem ok_Z5:ConOk Try.prog 86 con_Z5 := okG k_Z5 e_Z5 hC_Z5 fun x hx => tf_of (w_Z5_eq x.1 x.2.1 x.2.2 _) (d_Z5 x.1 x.2.1 x.2.2 _ hx rfl)
theorem tx_withinG {n lo hi:Int}:s_Z5 n lo hi = s_Z2 n lo hi := rfl
def C_Zl:Cons := [(86,[],con_Z5)]
theorem hC_Zl:ConsOk Try.prog C_Zl := cC ok_Z5 <| ConsOk.nil
def w_Zl (p0:Int) (p1:Int) (K:Bool→Prop):Prop := (K (s_Z5 p0 (IntKind.i64.wrap (zz0 - p1)) p1))
theorem w_Zl_eq (p0:Int) (p1:Int) (K:Bool→Prop):tfn F_Zl A_Zl C_Zl P_Zl R_Zl (p0,p1) K = w_Zl p0 p1 K := by kernel_rfl
def s_Zl (p0:Int) (p1:Int):Bool := (s_Z5 p0 (IntKind.i64.wrap ((0:Int) - p1)) p1)
abbrev pre_Zl (_p0:Int) (_p1:Int):List Prop := []
theorem d_Zl (p0:Int) (p1:Int) (K:Bool→Prop) (_hp:∀ p∈pre_Zl p0 p1,p) (h:K (s_Zl p0 p1)):w_Zl p0 p1 K := by
 unfold w_Zl
 unfold s_Zl at h
 exact h
abbrev con_Zl:Con := ⟨P_Zl,R_Zl,fun x => pre_Zl x.1 x.2,fun x => s_Zl x.1 x.2⟩
theorem ok_Zl:ConOk Try.prog 83 con_Zl := okG k_Zl e_Zl hC_Zl fun x hx => tf_of (w_Zl_eq x.1 x.2 _) (d_Zl x.1 x.2 _ hx rfl)
def C_Zk:Cons := [(83,[],con_Zl)]
theorem hC_Zk:ConsOk Try.prog C_Zk := cC ok_Zl <| ConsOk.nil
def w_Zk (p0:Int) (K:Bool→Prop):Prop := (K (s_Z5 p0 (-100000:Int) (100000:Int)))
theorem w_Zk_eq (p0:Int) (K:Bool→Prop):tfn F_Zk A_Zk C_Zk P_Zk R_Zk p0 K = w_Zk p0 K := by kernel_rfl
def s_Zk (p0:Int):Bool := (s_Z5 p0 (-100000:Int) (100000:Int))
abbrev pre_Zk (_p0:Int):List Prop := []
theorem d_Zk (p0:Int) (K:Bool→Prop) (_hp:∀ p∈pre_Zk p0,p) (h:K (s_Zk p0)):w_Zk p0 K := by
 unfold w_Zk
 unfold s_Zk at h
 exact h
abbrev con_Zk:Con := ⟨P_Zk,R_Zk,fun x => pre_Zk x,fun x => s_Zk x⟩
theorem ok_Zk:ConOk Try.prog 85 con_Zk := okG k_Zk e_Zk hC_Zk fun x hx => tf_of (w_Zk_eq x _) (d_Zk x _ hx rfl)
def C_Zm:Cons := [(85,[],con_Zk)]
theorem hC_Zm:ConsOk Try.prog C_Zm := cC ok_Zk <| ConsOk.nil
def w_Zm (p0:Int) (K:Bool→Prop):Prop := (K (!(s_Z5 p0 (-100000:Int) (100000:Int))))
theorem w_Zm_eq (p0:Int) (K:Bool→Prop):tfn F_Zm A_Zm C_Zm P_Zm R_Zm p0 K = w_Zm p0 K := by kernel_rfl
def s_Zm (p0:Int):Bool := (!(s_Z5 p0 (-100000:Int) (100000:Int)))
abbrev pre_Zm (_p0:Int):List Prop := []
theorem d_Zm (p0:Int) (K:Bool→Prop) (_hp:∀ p∈pre_Zm p0,p) (h:K (s_Zm p0)):w_Zm p0 K := by
 unfold w_Zm
 unfold s_Zm at h
 exact h
abbrev con_Zm:Con := ⟨P_Zm,R_Zm,fun x => pre_Zm x,fun x => s_Zm x⟩
theorem ok_Zm:ConOk Try.prog 125 con_Zm := okG k_Zm e_Zm hC_Zm fun x hx => tf_of (w_Zm_eq x _) (d_Zm x _ hx rfl)
def C_Zf:Cons := [(125,[],con_Zm)]
theorem hC_Zf:ConsOk Try.prog C_Zf := cC ok_Zm <| ConsOk.nil
def w_Zf (p0:gF) (_p1:PUnit) (K:Int→Prop):Prop := (∃ n0,(loopP (fun (y1:Int) k2 => ((((decide (y1 < (p0.length:Int)))=true) →((zz0≤y1) ∧((y1 < (p0.length:Int)) ∧((((!(s_Z5 (p0.getD y1.toNat zz0) (-100000:Int) (100000:Int)))=true) →(K y1)) ∧(((!(s_Z5 (p0.getD y1.toNat zz0) (-100000:Int) (100000:Int)))=false) →(k2 (IntKind.i64.wrap (y1 + 1)))))))) ∧(((decide (y1 < (p0.length:Int)))=false) →(K (-1:Int))))) n0 zz0))
theorem w_Zf_eq (p0:gF) (p1:PUnit) (K:Int→Prop):tfn F_Zf A_Zf C_Zf P_Zf R_Zf (p0,p1) K = w_Zf p0 p1 K := by kernel_rfl
def st_Zf_0 (p0:gF) (_p1:PUnit) (y0:Int):Int ⊕ Int := (cond (decide (y0 < (p0.length:Int))) (cond (!(s_Z5 (p0.getD y0.toNat (0:Int)) (-100000:Int) (100000:Int))) (Sum.inr y0) (Sum.inl (IntKind.i64.wrap (y0 + 1)))) (Sum.inr (-1:Int)))
abbrev sp_Zf_0 (p0:gF) (_p1:PUnit) (y0:Int):List Prop := [(((decide (y0 < (p0.length:Int)))=true)→((0:Int)≤y0)),(((decide (y0 < (p0.length:Int)))=true)→(y0 < (p0.length:Int)))]
def s_Zf (p0:gF) (p1:PUnit):Int := (lpv (0:Int) (st_Zf_0 p0 p1) (0:Int))
abbrev pre_Zf (p0:gF) (p1:PUnit):List Prop := [(OkL (st_Zf_0 p0 p1) (sp_Zf_0 p0 p1) (0:Int))]
theorem d_Zf (p0:gF) (p1:PUnit) (K:Int→Prop) (hp:∀ p∈pre_Zf p0 p1,p) (h:K (s_Zf p0 p1)):w_Zf p0 p1 K := by
 unfold w_Zf
 unfold s_Zf at h
 obtain ⟨hp0,_⟩ := conj_of hp
 exact (loop_gen (hp0) h (fun y0 k0 hp h => by
 unfold st_Zf_0 at h; obtain ⟨hp0,hp1,_⟩ := conj_of hp
 exact (br' h (fun e1 h => ⟨(hp0 e1),(hp1 e1),(br' h (fun e2 h => h)
  (fun e2 h => h))⟩)
  (fun e1 h => h))))
/-- Whether a number is a reading. -/
def v_val (x:Int):Bool := s_Z2 x (-100000) 100000
def v_sidx (l:gF):Int := v_scan (fun i x => cond (!(v_val x)) (some i) none) (-1) 0 l
theorem l_Zf_0 (p0:gF) (p1:PUnit) (hl:lenOk p0):OkL (st_Zf_0 p0 p1) (sp_Zf_0 p0 p1) 0∧lpv (0:Int) (st_Zf_0 p0 p1) 0 = v_scan (fun i x => cond (!(v_val x)) (some i) none) (-1) 0 p0 := by
 refine scan_is p0 0 (fun i x => cond (!(v_val x)) (some i) none) (-1) hl ?_ ?_
 ·refine ⟨by simp only [sp_Zf_0,fM,decide_eq_true_eq]; simp,by simp [st_Zf_0]⟩
 ·intro j hj
  have hj' : (j:Int) < p0.length := by omega
  refine ⟨by simp only [sp_Zf_0,fM,decide_eq_true_eq,Int.toNat_natCast]; simp <;> omega,?_⟩
  simp only [st_Zf_0,hj',decide_true,Int.toNat_natCast,cond_true,wrap_nat (show (j:Int)≤9223372036854775806 by unfold lenOk at hl; omega)]
  have e:s_Z5 (p0.getD j 0) (-100000) 100000 = v_val (p0.getD j 0) := rfl
  rw [e]
  cases v_val (p0.getD j 0) <;> rfl
abbrev t_Zf (p0:gF) (_p1:PUnit):Int := v_sidx p0
abbrev qre_Zf (p0:gF) (_p1:PUnit):List Prop := [lenOk p0]
theorem pp_Zf (p0:gF) (p1:PUnit) (hq:∀ p∈qre_Zf p0 p1,p):∀ p∈pre_Zf p0 p1,p := by
 simp only [pre_Zf,fM]
 exact ⟨(l_Zf_0 p0 p1 (conj_of hq).1).1,by simp⟩
theorem tt_Zf (p0:gF) (p1:PUnit) (hq:∀ p∈qre_Zf p0 p1,p):s_Zf p0 p1 = t_Zf p0 p1 := by
 exact (l_Zf_0 p0 p1 (conj_of hq).1).2

abbrev con_Zf:Con := ⟨P_Zf,R_Zf,fun x => qre_Zf x.1 x.2,fun x => t_Zf x.1 x.2⟩
theorem ok_Zf:ConOk Try.prog 137 con_Zf := okG k_Zf e_Zf hC_Zf fun x hx => tf_of (w_Zf_eq x.1 x.2 _) (d_Zf x.1 x.2 _ (pp_Zf x.1 x.2 hx) (tt_Zf x.1 x.2 hx))
def C_Z9:Cons := []
theorem hC_Z9:ConsOk Try.prog C_Z9 := ConsOk.nil
def w_Z9 (p0:gF) (K:Int→Prop):Prop := (∃ n0,(loopP (fun (y1:Int) k2 => ((((decide (y1 < (p0.length:Int)))=true) →((zz0≤y1) ∧((y1 < (p0.length:Int)) ∧(((((p0.getD y1.toNat zz0) != 0)=true) →(K (p0.getD y1.toNat zz0))) ∧((((p0.getD y1.toNat zz0) != 0)=false) →(k2 (IntKind.i64.wrap (y1 + 1)))))))) ∧(((decide (y1 < (p0.length:Int)))=false) →(K zz0)))) n0 zz0))
theorem w_Z9_eq (p0:gF) (K:Int→Prop):tfn F_Z9 A_Z9 C_Z9 P_Z9 R_Z9 p0 K = w_Z9 p0 K := by kernel_rfl
def st_Z9_0 (p0:gF) (y0:Int):Int ⊕ Int := (cond (decide (y0 < (p0.length:Int))) (cond ((p0.getD y0.toNat (0:Int)) != 0) (Sum.inr (p0.getD y0.toNat (0:Int))) (Sum.inl (IntKind.i64.wrap (y0 + 1)))) (Sum.inr (0:Int)))
abbrev sp_Z9_0 (p0:gF) (y0:Int):List Prop := [(((decide (y0 < (p0.length:Int)))=true)→((0:Int)≤y0)),(((decide (y0 < (p0.length:Int)))=true)→(y0 < (p0.length:Int)))]
def s_Z9 (p0:gF):Int := (lpv (0:Int) (st_Z9_0 p0) (0:Int))
abbrev pre_Z9 (p0:gF):List Prop := [(OkL (st_Z9_0 p0) (sp_Z9_0 p0) (0:Int))]
theorem d_Z9 (p0:gF) (K:Int→Prop) (hp:∀ p∈pre_Z9 p0,p) (h:K (s_Z9 p0)):w_Z9 p0 K := by
 unfold w_Z9
 unfold s_Z9 at h
 obtain ⟨hp0,_⟩ := conj_of hp
 exact (loop_gen (hp0) h (fun y0 k0 hp h => by
 unfold st_Z9_0 at h; obtain ⟨hp0,hp1,_⟩ := conj_of hp
 exact (br' h (fun e1 h => ⟨(hp0 e1),(hp1 e1),(br' h (fun e2 h => h)
  (fun e2 h => h))⟩)
  (fun e1 h => h))))
theorem l_Z9_0 (p0:gF) (hl:lenOk p0):OkL (st_Z9_0 p0) (sp_Z9_0 p0) 0∧lpv (0:Int) (st_Z9_0 p0) 0 = v_scan (fun _ x => cond (x != 0) (some x) none) (0:Int) 0 p0 := by
 refine scan_is p0 0 (fun _ x => cond (x != 0) (some x) none) (0:Int) hl ?_ ?_
 ·refine ⟨by simp only [sp_Z9_0,fM,decide_eq_true_eq]; simp,by simp [st_Z9_0]⟩
 ·intro j hj
  have hj' : (j:Int) < p0.length := by omega
  refine ⟨by simp only [sp_Z9_0,fM,decide_eq_true_eq,Int.toNat_natCast]; simp <;> omega,?_⟩
  simp only [st_Z9_0,hj',decide_true,Int.toNat_natCast,cond_true,wrap_nat (show (j:Int)≤9223372036854775806 by unfold lenOk at hl; omega)]
  generalize p0.getD j 0 = x
  cases (x != 0) <;> rfl
abbrev t_Z9 (p0:gF):Int := v_first p0
abbrev qre_Z9 (p0:gF):List Prop := [lenOk p0]
theorem pp_Z9 (p0:gF) (hq:∀ p∈qre_Z9 p0,p):∀ p∈pre_Z9 p0,p := by
 simp only [pre_Z9,fM]
 exact ⟨(l_Z9_0 p0 (conj_of hq).1).1,by simp⟩
theorem tt_Z9 (p0:gF) (hq:∀ p∈qre_Z9 p0,p):s_Z9 p0 = t_Z9 p0 := by
 exact (l_Z9_0 p0 (conj_of hq).1).2.trans (v_first_scan p0 0)

abbrev con_Z9:Con := ⟨P_Z9,R_Z9,fun x => qre_Z9 x,fun x => t_Z9 x⟩
theorem ok_Z9:ConOk Try.prog 71 con_Z9 := okG k_Z9 e_Z9 hC_Z9 fun x hx => tf_of (w_Z9_eq x _) (d_Z9 x _ (pp_Z9 x hx) (tt_Z9 x hx))
def C_Z4:Cons := []
theorem hC_Z4:ConsOk Try.prog C_Z4 := ConsOk.nil
def w_Z4 (p0:Bool) (p1:Int) (K:Int→Prop):Prop := (((p0 = true) →(K zz0)) ∧((p0 = false) →(K p1)))
theorem w_Z4_eq (p0:Bool) (p1:Int) (K:Int→Prop):tfn F_Z4 A_Z4 C_Z4 P_Z4 R_Z4 (p0,p1) K = w_Z4 p0 p1 K := by kernel_rfl
def s_Z4 (p0:Bool) (p1:Int):Int := (cond p0 (0:Int) p1)
abbrev pre_Z4 (_p0:Bool) (_p1:Int):List Prop := []
theorem d_Z4 (p0:Bool) (p1:Int) (K:Int→Prop) (_hp:∀ p∈pre_Z4 p0 p1,p) (h:K (s_Z4 p0 p1)):w_Z4 p0 p1 K := by
 unfold w_Z4
 unfold s_Z4 at h
 exact (br' h (fun e0 h => h)
  (fun e0 h => h))
abbrev con_Z4:Con := ⟨P_Z4,R_Z4,fun x => pre_Z4 x.1 x.2,fun x => s_Z4 x.1 x.2⟩
theorem ok_Z4:ConOk Try.prog 66 con_Z4 := okG k_Z4 e_Z4 hC_Z4 fun x hx => tf_of (w_Z4_eq x.1 x.2 _) (d_Z4 x.1 x.2 _ hx rfl)
theorem tx_unless {a:Bool} {x:Int}:s_Z4 a x = cond a 0 x := by cases a <;> rfl
def C_Zx:Cons := [(137,[125],con_Zf)]
theorem hC_Zx:ConsOk Try.prog C_Zx := cC ok_Zf <| ConsOk.nil
def w_Zx (p0:gF) (_p1:PUnit) (K:Bool→Prop):Prop := ((lenOk p0) ∧(K (decide ((v_sidx p0) ≥ 0))))
theorem w_Zx_eq (p0:gF) (p1:PUnit) (K:Bool→Prop):tfn F_Zx A_Zx C_Zx P_Zx R_Zx (p0,p1) K = w_Zx p0 p1 K := by kernel_rfl
def s_Zx (p0:gF) (_p1:PUnit):Bool := (decide ((v_sidx p0) ≥ 0))
abbrev pre_Zx (p0:gF) (_p1:PUnit):List Prop := [(lenOk p0)]
theorem d_Zx (p0:gF) (p1:PUnit) (K:Bool→Prop) (hp:∀ p∈pre_Zx p0 p1,p) (h:K (s_Zx p0 p1)):w_Zx p0 p1 K := by
 unfold w_Zx
 unfold s_Zx at h
 obtain ⟨hp0,_⟩ := conj_of hp
 exact ⟨(hp0),h⟩
abbrev con_Zx:Con := ⟨P_Zx,R_Zx,fun x => pre_Zx x.1 x.2,fun x => s_Zx x.1 x.2⟩
theorem ok_Zx:ConOk Try.prog 124 con_Zx := okG k_Zx e_Zx hC_Zx fun x hx => tf_of (w_Zx_eq x.1 x.2 _) (d_Zx x.1 x.2 _ hx rfl)
def C_Zh:Cons := [(124,[125],con_Zx),(66,[],con_Z4),(71,[],con_Z9)]
theorem hC_Zh:ConsOk Try.prog C_Zh := cC ok_Zx <| cC ok_Z4 <| cC ok_Z9 <| ConsOk.nil
def w_Zh (p0:gF) (K:Int→Prop):Prop := ((lenOk p0) ∧((lenOk ((s_Z4 (decide ((p0.length:Int) > 0)) (10:Int)) :: ((s_Z4 (decide ((p0.length:Int)≤40)) (8:Int)) :: ((s_Z4 (!(decide ((v_sidx p0) ≥ 0))) (2:Int)) :: ([]:List Int))))) ∧(K (v_first ((s_Z4 (decide ((p0.length:Int) > 0)) (10:Int)) :: ((s_Z4 (decide ((p0.length:Int)≤40)) (8:Int)) :: ((s_Z4 (!(decide ((v_sidx p0) ≥ 0))) (2:Int)) :: ([]:List Int))))))))
theorem w_Zh_eq (p0:gF) (K:Int→Prop):tfn F_Zh A_Zh C_Zh P_Zh R_Zh p0 K = w_Zh p0 K := by kernel_rfl
def s_Zh (p0:gF):Int := (v_first ((s_Z4 (decide ((p0.length:Int) > 0)) (10:Int)) :: ((s_Z4 (decide ((p0.length:Int)≤40)) (8:Int)) :: ((s_Z4 (!(decide ((v_sidx p0) ≥ 0))) (2:Int)) :: ([]:List Int)))))
abbrev pre_Zh (p0:gF):List Prop := [(lenOk p0)]
theorem d_Zh (p0:gF) (K:Int→Prop) (hp:∀ p∈pre_Zh p0,p) (h:K (s_Zh p0)):w_Zh p0 K := by
 unfold w_Zh
 unfold s_Zh at h
 obtain ⟨hp0,_⟩ := conj_of hp
 exact ⟨(hp0),(lenOk_of 3 rfl (by decide)),h⟩
/-- What is wrong with a series. -/
def v_serr (l:gF):Int := cond ((l.length:Int) == 0) 10 (cond (decide ((l.length:Int) > 40)) 8 (cond (l.all v_val) 0 2))
structure v_ser (l:gF):Prop where
 ne:0 < l.length
 len:l.length≤40
 ok:∀ x∈l,-100000≤x∧x≤100000
theorem v_serr_ok {l:List Int} (h:v_serr l = 0):v_ser l := by
 unfold v_serr at h
 rcases int0 (l.length:Int) with ⟨_,_,e0⟩ | ⟨h0,_,e0⟩ <;> rw [e0] at h
 ·cases h
 rcases dec0 (a := 40) (b := (l.length:Int)) with ⟨_,_,_,_,e1⟩ | ⟨h1,_,_,_,e1⟩ <;> rw [e1] at h
 ·cases h
 cases c:l.all v_val <;> rw [c] at h
 ·cases h
 ·exact ⟨by omega,by omega,fun x hx => tx_within.1 (List.all_eq_true.1 c x hx)⟩
theorem v_ser_get {l:List Int} (h:v_ser l) {i:Nat} (hi:i < l.length) : -100000≤l.getD i 0∧l.getD i 0≤100000 := h.ok _ (getD_mem' 0 hi)
abbrev t_Zh (p0:gF):Int := v_serr p0
abbrev qre_Zh (p0:gF):List Prop := [lenOk p0]
theorem pp_Zh (p0:gF) (hq:∀ p∈qre_Zh p0,p):∀ p∈pre_Zh p0,p := by
 obtain ⟨h1,_⟩ := conj_of hq
 simp only [pre_Zh,fM]
 exact ⟨h1,by simp⟩
theorem tt_Zh (p0:gF) (_hq:∀ p∈qre_Zh p0,p):s_Zh p0 = t_Zh p0 := by
 unfold s_Zh t_Zh v_serr v_sidx
 rw [v_scan_idx (c := fun x => !(v_val x)) p0 0 (Int.le_refl _),show p0.any (fun x => !(v_val x)) = !(p0.all v_val) by rw [List.not_all_eq_any_not],Bool.not_not]
 unfold s_Z4
 rcases int0 (p0.length:Int) with ⟨h0,_,e0⟩ | ⟨h0,_,e0⟩ <;> rw [e0]
 ·rw [h0]; rfl
 ·rw [decide_eq_true (show (p0.length:Int) > 0 by omega)]
  rcases dec0 (a := 40) (b := (p0.length:Int)) with ⟨_,_,_,e1,e2⟩ | ⟨_,_,_,e1,e2⟩ <;> rw [e1,e2]
  ·rfl
  ·cases p0.all v_val <;> rfl

abbrev con_Zh:Con := ⟨P_Zh,R_Zh,fun x => qre_Zh x,fun x => t_Zh x⟩
theorem ok_Zh:ConOk Try.prog 100 con_Zh := okG k_Zh e_Zh hC_Zh fun x hx => tf_of (w_Zh_eq x _) (d_Zh x _ (pp_Zh x hx) (tt_Zh x hx))
def C_Zi:Cons := []
theorem hC_Zi:ConsOk Try.prog C_Zi := ConsOk.nil
def w_Zi (p0:Int) (p1:Int) (K:Int→Prop):Prop := ((p1 ≠ zz0) ∧((p1 ≠ zz0) ∧((((decide ((Int.tmod p0 p1) < 0))=true) →(K (IntKind.i64.wrap ((IntKind.i64.wrap (Int.tdiv p0 p1)) - 1)))) ∧(((decide ((Int.tmod p0 p1) < 0))=false) →(K (IntKind.i64.wrap (Int.tdiv p0 p1)))))))
theorem w_Zi_eq (p0:Int) (p1:Int) (K:Int→Prop):tfn F_Zi A_Zi C_Zi P_Zi R_Zi (p0,p1) K = w_Zi p0 p1 K := by kernel_rfl
def s_Zi (p0:Int) (p1:Int):Int := (cond (decide ((Int.tmod p0 p1) < 0)) (IntKind.i64.wrap ((IntKind.i64.wrap (Int.tdiv p0 p1)) - 1)) (IntKind.i64.wrap (Int.tdiv p0 p1)))
abbrev pre_Zi (_p0:Int) (p1:Int):List Prop := [(p1 ≠ (0:Int))]
theorem d_Zi (p0:Int) (p1:Int) (K:Int→Prop) (hp:∀ p∈pre_Zi p0 p1,p) (h:K (s_Zi p0 p1)):w_Zi p0 p1 K := by
 unfold w_Zi
 unfold s_Zi at h
 obtain ⟨hp0,_⟩ := conj_of hp
 exact ⟨(hp0),(hp0),(br' h (fun e0 h => h)
  (fun e0 h => h))⟩
abbrev t_Zi (p0 p1:Int):Int := p0 / p1
abbrev qre_Zi (p0 p1:Int):List Prop := [v_fit p0,0 < p1]
theorem pp_Zi (p0 p1:Int) (hq:∀ p∈qre_Zi p0 p1,p):∀ p∈pre_Zi p0 p1,p := by
 simp only [pre_Zi,fM]
 have := (conj_of hq).2.1
 exact ⟨by omega,by simp⟩
theorem tt_Zi (p0 p1:Int) (hq:∀ p∈qre_Zi p0 p1,p):s_Zi p0 p1 = t_Zi p0 p1 := floor_is (conj_of hq).1 (conj_of hq).2.1

abbrev con_Zi:Con := ⟨P_Zi,R_Zi,fun x => qre_Zi x.1 x.2,fun x => t_Zi x.1 x.2⟩
theorem ok_Zi:ConOk Try.prog 30 con_Zi := okG k_Zi e_Zi hC_Zi fun x hx => tf_of (w_Zi_eq x.1 x.2 _) (d_Zi x.1 x.2 _ (pp_Zi x.1 x.2 hx) (tt_Zi x.1 x.2 hx))
def C_Zs:Cons := [(17,[],con_Z2)]
theorem hC_Zs:ConsOk Try.prog C_Zs := cC ok_Z2 <| ConsOk.nil
def w_Zs (p0:Int) (K:Bool→Prop):Prop := (K (s_Z2 p0 zz0 (1000000000000:Int)))
theorem w_Zs_eq (p0:Int) (K:Bool→Prop):tfn F_Zs A_Zs C_Zs P_Zs R_Zs p0 K = w_Zs p0 K := by kernel_rfl
def s_Zs (p0:Int):Bool := (s_Z2 p0 (0:Int) (1000000000000:Int))
abbrev pre_Zs (_p0:Int):List Prop := []
theorem d_Zs (p0:Int) (K:Bool→Prop) (_hp:∀ p∈pre_Zs p0,p) (h:K (s_Zs p0)):w_Zs p0 K := by
 unfold w_Zs
 unfold s_Zs at h
 exact h
abbrev con_Zs:Con := ⟨P_Zs,R_Zs,fun x => pre_Zs x,fun x => s_Zs x⟩
theorem ok_Zs:ConOk Try.prog 88 con_Zs := okG k_Zs e_Zs hC_Zs fun x hx => tf_of (w_Zs_eq x _) (d_Zs x _ hx rfl)
def C_Zt:Cons := [(17,[],con_Z2)]
theorem hC_Zt:ConsOk Try.prog C_Zt := cC ok_Z2 <| ConsOk.nil
def w_Zt (p0:Int) (K:Bool→Prop):Prop := (K (s_Z2 p0 (-10:Int) (10:Int)))
theorem w_Zt_eq (p0:Int) (K:Bool→Prop):tfn F_Zt A_Zt C_Zt P_Zt R_Zt p0 K = w_Zt p0 K := by kernel_rfl
def s_Zt (p0:Int):Bool := (s_Z2 p0 (-10:Int) (10:Int))
abbrev pre_Zt (_p0:Int):List Prop := []
theorem d_Zt (p0:Int) (K:Bool→Prop) (_hp:∀ p∈pre_Zt p0,p) (h:K (s_Zt p0)):w_Zt p0 K := by
 unfold w_Zt
 unfold s_Zt at h
 exact h
abbrev con_Zt:Con := ⟨P_Zt,R_Zt,fun x => pre_Zt x,fun x => s_Zt x⟩
theorem ok_Zt:ConOk Try.prog 89 con_Zt := okG k_Zt e_Zt hC_Zt fun x hx => tf_of (w_Zt_eq x _) (d_Zt x _ hx rfl)
def C_Zq:Cons := [(17,[],con_Z2)]
theorem hC_Zq:ConsOk Try.prog C_Zq := cC ok_Z2 <| ConsOk.nil
def w_Zq (p0:Int) (K:Bool→Prop):Prop := (K (s_Z2 p0 (-100000:Int) (100000:Int)))
theorem w_Zq_eq (p0:Int) (K:Bool→Prop):tfn F_Zq A_Zq C_Zq P_Zq R_Zq p0 K = w_Zq p0 K := by kernel_rfl
def s_Zq (p0:Int):Bool := (s_Z2 p0 (-100000:Int) (100000:Int))
abbrev pre_Zq (_p0:Int):List Prop := []
theorem d_Zq (p0:Int) (K:Bool→Prop) (_hp:∀ p∈pre_Zq p0,p) (h:K (s_Zq p0)):w_Zq p0 K := by
 unfold w_Zq
 unfold s_Zq at h
 exact h
abbrev con_Zq:Con := ⟨P_Zq,R_Zq,fun x => pre_Zq x,fun x => s_Zq x⟩
theorem ok_Zq:ConOk Try.prog 90 con_Zq := okG k_Zq e_Zq hC_Zq fun x hx => tf_of (w_Zq_eq x _) (d_Zq x _ hx rfl)
def C_Z3:Cons := [(88,[],con_Zs),(89,[],con_Zt),(90,[],con_Zq)]
theorem hC_Z3:ConsOk Try.prog C_Z3 := cC ok_Zs <| cC ok_Zt <| cC ok_Zq <| ConsOk.nil
abbrev q3_Z3 (p0:(List (Int×(Int×(Int×(Int×Int)))))) (y1:Int) := (!(s_Z2 (p0.getD y1.toNat (zz0,(zz0,(zz0,(zz0,zz0))))).1 zz0 (1000000000000:Int)))
abbrev q1_Z3 (p0:(List (Int×(Int×(Int×(Int×Int)))))) (y1:Int) := (cond (q3_Z3 p0 y1) true (!(s_Z2 (p0.getD y1.toNat (zz0,(zz0,(zz0,(zz0,zz0))))).2.1 (-10:Int) (10:Int))))
abbrev q0_Z3 (p0:(List (Int×(Int×(Int×(Int×Int)))))) (y1:Int) := (cond (q1_Z3 p0 y1) true (!(s_Z2 (p0.getD y1.toNat (zz0,(zz0,(zz0,(zz0,zz0))))).2.2.1 (-10:Int) (10:Int))))
abbrev q2_Z3 (p0:(List (Int×(Int×(Int×(Int×Int)))))) (y1:Int) := (cond (q0_Z3 p0 y1) true (!(s_Z2 (p0.getD y1.toNat (zz0,(zz0,(zz0,(zz0,zz0))))).2.2.2.1 (-10:Int) (10:Int))))
def w_Z3 (p0:(List (Int×(Int×(Int×(Int×Int)))))) (K:(Int×Int)→Prop):Prop := (((((p0.length:Int) == zz0)=true) →(K (zz0,(10:Int)))) ∧((((p0.length:Int) == zz0)=false) →((((decide ((p0.length:Int) > 20))=true) →(K (zz0,(8:Int)))) ∧(((decide ((p0.length:Int) > 20))=false) →(∃ n0,(loopP (fun (y1:Int) k2 => ((((decide (y1 < (p0.length:Int)))=true) →((zz0≤y1) ∧((y1 < (p0.length:Int)) ∧((((q3_Z3 p0 y1)=false) →((q3_Z3 p0 y1)=(q3_Z3 p0 y1))) ∧((((q3_Z3 p0 y1)=false) →((q3_Z3 p0 y1)=(q3_Z3 p0 y1))) ∧((((q3_Z3 p0 y1)=false) →((q3_Z3 p0 y1)=(q3_Z3 p0 y1))) ∧(((q3_Z3 p0 y1)=(q3_Z3 p0 y1)) ∧((((q1_Z3 p0 y1)=false) →((q1_Z3 p0 y1)=(q1_Z3 p0 y1))) ∧((((q1_Z3 p0 y1)=false) →((q1_Z3 p0 y1)=(q1_Z3 p0 y1))) ∧((((q1_Z3 p0 y1)=false) →((q1_Z3 p0 y1)=(q1_Z3 p0 y1))) ∧(((q1_Z3 p0 y1)=(q1_Z3 p0 y1)) ∧((((q0_Z3 p0 y1)=false) →((q0_Z3 p0 y1)=(q0_Z3 p0 y1))) ∧((((q0_Z3 p0 y1)=false) →((q0_Z3 p0 y1)=(q0_Z3 p0 y1))) ∧((((q0_Z3 p0 y1)=false) →((q0_Z3 p0 y1)=(q0_Z3 p0 y1))) ∧(((q0_Z3 p0 y1)=(q0_Z3 p0 y1)) ∧((((q2_Z3 p0 y1)=false) →((q2_Z3 p0 y1)=(q2_Z3 p0 y1))) ∧((((q2_Z3 p0 y1)=false) →((q2_Z3 p0 y1)=(q2_Z3 p0 y1))) ∧((((q2_Z3 p0 y1)=false) →((q2_Z3 p0 y1)=(q2_Z3 p0 y1))) ∧(((q2_Z3 p0 y1)=(q2_Z3 p0 y1)) ∧((((cond (q2_Z3 p0 y1) true (!(s_Z2 (p0.getD y1.toNat (zz0,(zz0,(zz0,(zz0,zz0))))).2.2.2.2 (-100000:Int) (100000:Int))))=true) →(K (y1,zz2))) ∧(((cond (q2_Z3 p0 y1) true (!(s_Z2 (p0.getD y1.toNat (zz0,(zz0,(zz0,(zz0,zz0))))).2.2.2.2 (-100000:Int) (100000:Int))))=false) →((((decide (y1 > zz0))=true) →((decide (y1 > zz0))=(decide (y1 > zz0)))) ∧((((decide (y1 > zz0))=true) →((decide (y1 > zz0))=(decide (y1 > zz0)))) ∧((((decide (y1 > zz0))=true) →((decide (y1 > zz0))=(decide (y1 > zz0)))) ∧((((decide (y1 > zz0))=true) →((decide (y1 > zz0))=(decide (y1 > zz0)))) ∧((((decide (y1 > zz0))=true) →(zz0≤(wi (y1 - zz1)))) ∧((((decide (y1 > zz0))=true) →((wi (y1 - zz1)) < (p0.length:Int))) ∧((((decide (y1 > zz0))=true) →((decide (y1 > zz0))=(decide (y1 > zz0)))) ∧((((decide (y1 > zz0))=true) →((decide (y1 > zz0))=(decide (y1 > zz0)))) ∧((((decide (y1 > zz0))=true) →((decide (y1 > zz0))=(decide (y1 > zz0)))) ∧((((decide (y1 > zz0))=true) →((decide (y1 > zz0))=(decide (y1 > zz0)))) ∧(((decide (y1 > zz0))=(decide (y1 > zz0))) ∧((((cond (decide (y1 > zz0)) (decide ((p0.getD y1.toNat (zz0,(zz0,(zz0,(zz0,zz0))))).1≤(p0.getD (Int.toNat (wi (y1 - zz1))) (zz0,(zz0,(zz0,(zz0,zz0))))).1)) false)=true) →(K (y1,(9:Int)))) ∧(((cond (decide (y1 > zz0)) (decide ((p0.getD y1.toNat (zz0,(zz0,(zz0,(zz0,zz0))))).1≤(p0.getD (Int.toNat (wi (y1 - zz1))) (zz0,(zz0,(zz0,(zz0,zz0))))).1)) false)=false) →(k2 (wi (y1 + zz1))))))))))))))))))))))))))))))))))))) ∧(((decide (y1 < (p0.length:Int)))=false) →(K (zz0,zz0))))) n0 zz0))))))
theorem w_Z3_eq (p0:(List (Int×(Int×(Int×(Int×Int)))))) (K:(Int×Int)→Prop):tfn F_Z3 A_Z3 C_Z3 P_Z3 R_Z3 p0 K = w_Z3 p0 K := by kernel_rfl
def st_Z3_0 (p0:(List (Int×(Int×(Int×(Int×Int)))))) (y2:Int):Int ⊕ (Int×Int) := (cond (decide (y2 < (p0.length:Int))) (cond (cond (cond (cond (cond (!(s_Z2 (p0.getD y2.toNat ((0:Int),((0:Int),((0:Int),(0,0))))).1 (0:Int) (1000000000000:Int))) true (!(s_Z2 (p0.getD y2.toNat ((0:Int),((0:Int),((0:Int),(0,0))))).2.1 (-10:Int) (10:Int)))) true (!(s_Z2 (p0.getD y2.toNat ((0:Int),((0:Int),((0:Int),(0,0))))).2.2.1 (-10:Int) (10:Int)))) true (!(s_Z2 (p0.getD y2.toNat ((0:Int),((0:Int),((0:Int),(0,0))))).2.2.2.1 (-10:Int) (10:Int)))) true (!(s_Z2 (p0.getD y2.toNat ((0:Int),((0:Int),((0:Int),(0,0))))).2.2.2.2 (-100000:Int) (100000:Int)))) (Sum.inr (y2,(2:Int))) (cond (cond (decide (y2 > 0)) (decide ((p0.getD y2.toNat ((0:Int),((0:Int),((0:Int),(0,0))))).1≤(p0.getD (Int.toNat (IntKind.i64.wrap (y2 - 1))) ((0:Int),((0:Int),((0:Int),(0,0))))).1)) false) (Sum.inr (y2,(9:Int))) (Sum.inl (IntKind.i64.wrap (y2 + 1))))) (Sum.inr (0,0)))
abbrev sp_Z3_0 (p0:(List (Int×(Int×(Int×(Int×Int)))))) (y2:Int):List Prop := [(((decide (y2 < (p0.length:Int)))=true)→((0:Int)≤y2)),(((decide (y2 < (p0.length:Int)))=true)→(y2 < (p0.length:Int))),(((decide (y2 < (p0.length:Int)))=true)→(((cond (cond (cond (cond (!(s_Z2 (p0.getD y2.toNat ((0:Int),((0:Int),((0:Int),(0,0))))).1 (0:Int) (1000000000000:Int))) true (!(s_Z2 (p0.getD y2.toNat ((0:Int),((0:Int),((0:Int),(0,0))))).2.1 (-10:Int) (10:Int)))) true (!(s_Z2 (p0.getD y2.toNat ((0:Int),((0:Int),((0:Int),(0,0))))).2.2.1 (-10:Int) (10:Int)))) true (!(s_Z2 (p0.getD y2.toNat ((0:Int),((0:Int),((0:Int),(0,0))))).2.2.2.1 (-10:Int) (10:Int)))) true (!(s_Z2 (p0.getD y2.toNat ((0:Int),((0:Int),((0:Int),(0,0))))).2.2.2.2 (-100000:Int) (100000:Int))))=false)→(((decide (y2 > 0))=true)→((0:Int)≤(IntKind.i64.wrap (y2 - 1)))))),(((decide (y2 < (p0.length:Int)))=true)→(((cond (cond (cond (cond (!(s_Z2 (p0.getD y2.toNat ((0:Int),((0:Int),((0:Int),(0,0))))).1 (0:Int) (1000000000000:Int))) true (!(s_Z2 (p0.getD y2.toNat ((0:Int),((0:Int),((0:Int),(0,0))))).2.1 (-10:Int) (10:Int)))) true (!(s_Z2 (p0.getD y2.toNat ((0:Int),((0:Int),((0:Int),(0,0))))).2.2.1 (-10:Int) (10:Int)))) true (!(s_Z2 (p0.getD y2.toNat ((0:Int),((0:Int),((0:Int),(0,0))))).2.2.2.1 (-10:Int) (10:Int)))) true (!(s_Z2 (p0.getD y2.toNat ((0:Int),((0:Int),((0:Int),(0,0))))).2.2.2.2 (-100000:Int) (100000:Int))))=false)→(((decide (y2 > 0))=true)→((IntKind.i64.wrap (y2 - 1)) < (p0.length:Int)))))]
def s_Z3 (p0:(List (Int×(Int×(Int×(Int×Int)))))):(Int×Int) := (cond ((p0.length:Int) == 0) ((0:Int),(10:Int)) (cond (decide ((p0.length:Int) > 20)) ((0:Int),(8:Int)) (lpv (0,0) (st_Z3_0 p0) (0:Int))))
abbrev pre_Z3 (p0:(List (Int×(Int×(Int×(Int×Int)))))):List Prop := [((((p0.length:Int) == 0)=false)→(((decide ((p0.length:Int) > 20))=false)→(OkL (st_Z3_0 p0) (sp_Z3_0 p0) (0:Int))))]
theorem d_Z3 (p0:(List (Int×(Int×(Int×(Int×Int)))))) (K:(Int×Int)→Prop) (hp:∀ p∈pre_Z3 p0,p) (h:K (s_Z3 p0)):w_Z3 p0 K := by
 unfold w_Z3
 unfold s_Z3 at h
 obtain ⟨hp0,_⟩ := conj_of hp
 exact (br' h (fun e0 h => h)
  (fun e0 h => (br' h (fun e1 h => h)
  (fun e1 h => (loop_gen (hp0 e0 e1) h (fun y2 k2 hp h => by
 unfold st_Z3_0 at h; obtain ⟨hp0,hp1,hp2,hp3,_⟩ := conj_of hp
 exact (br' h (fun e3 h => ⟨(hp0 e3),(hp1 e3),rf,rf,rf,rfl,rf,rf,rf,rfl,rf,rf,rf,rfl,rf,rf,rf,rfl,(br' h (fun e4 h => h)
  (fun e4 h => ⟨rf,rf,rf,rf,(hp2 e3 e4),(hp3 e3 e4),rf,rf,rf,rf,rfl,(br' h (fun e5 h => h)
  (fun e5 h => h))⟩))⟩)
  (fun e3 h => h))))))))
/-- Whether a sample is valid; what is wrong with one of samples; with samples. -/
def v_sval (x:Int×Int×Int×Int×Int):Bool := cond (s_Z2 x.1 0 1000000000000) (cond (s_Z2 x.2.1 (-10) 10) (cond (s_Z2 x.2.2.1 (-10) 10) (cond (s_Z2 x.2.2.2.1 (-10) 10) (s_Z2 x.2.2.2.2 (-100000) 100000) false) false) false) false
def v_cs1 (l:List (Int×Int×Int×Int×Int)) (i:Int) (x:Int×Int×Int×Int×Int):Option (Int×Int) := cond (v_sval x) (cond (cond (i == 0) true (decide (x.1 > (l.getD (i - 1).toNat (0,0,0,0,0)).1))) none (some (i,9))) (some (i,2))
def v_cs (l:List (Int×Int×Int×Int×Int)):Int×Int := cond ((l.length:Int) == 0) (0,10) (cond (decide ((l.length:Int) > 20)) (0,8) (v_scan (v_cs1 l) (0,0) 0 l))
theorem v_svalr {x:Int×Int×Int×Int×Int}:cond (cond (cond (cond (!(s_Z2 x.1 0 1000000000000)) true (!(s_Z2 x.2.1 (-10) 10))) true (!(s_Z2 x.2.2.1 (-10) 10))) true (!(s_Z2 x.2.2.2.1 (-10) 10))) true (!(s_Z2 x.2.2.2.2 (-100000) 100000)) = !(v_sval x) := by
 unfold v_sval
 cases s_Z2 x.1 0 1000000000000 <;> cases s_Z2 x.2.1 (-10) 10 <;> cases s_Z2 x.2.2.1 (-10) 10 <;> cases s_Z2 x.2.2.2.1 (-10) 10 <;> cases s_Z2 x.2.2.2.2 (-100000) 100000 <;> rfl
theorem l_Z3_0 (p0:List (Int×Int×Int×Int×Int)) (hl:p0.length≤20):OkL (st_Z3_0 p0) (sp_Z3_0 p0) 0∧lpv ((0,0):Int×Int) (st_Z3_0 p0) 0 = v_scan (v_cs1 p0) ((0,0):Int×Int) 0 p0 := by
 refine scan_is p0 (0,0,0,0,0) (v_cs1 p0) ((0,0):Int×Int) (lenOk_le hl (by decide)) ?_ ?_
 ·refine ⟨by simp only [sp_Z3_0,fM,decide_eq_true_eq]; simp,by simp [st_Z3_0]⟩
 ·intro j hj
  have hj' : (j:Int) < p0.length := by omega
  have hw := wrap_nat (show (j:Int)≤9223372036854775806 by omega)
  have hw2:IntKind.i64.wrap ((j:Int) - 1)=(j:Int) - 1 := wrap_id (by omega) (by omega)
  refine ⟨by simp only [sp_Z3_0,fM,decide_eq_true_eq,Int.toNat_natCast]; rw [hw2]; and_intros <;> first | (intro p hp; cases hp; done) | (intros; first | omega | (simp_all; done) | (simp_all; omega)),?_⟩
  simp only [st_Z3_0,hj',decide_true,Int.toNat_natCast,cond_true,hw,s_Zs,s_Zt,s_Zq,v_svalr,hw2]
  unfold v_cs1
  cases v_sval (p0.getD j (0,0,0,0,0))
  ·rfl
  ·rcases int0 (j:Int) with ⟨hj0,_,z⟩ | ⟨hj0,_,z⟩ <;> rw [z]
   ·rw [decide_eq_false (show ¬ (j:Int) > 0 by omega)]; rfl
   ·rw [decide_eq_true (show (j:Int) > 0 by omega)]
    rcases dec0 (a := (p0.getD ((j:Int) - 1).toNat (0,0,0,0,0)).1) (b := (p0.getD j (0,0,0,0,0)).1) with ⟨_,c1,c2,c3,c4⟩ | ⟨_,c1,c2,c3,c4⟩ <;> simp only [c3,c4] <;> rfl
abbrev t_Z3 (p0:List (Int×Int×Int×Int×Int)):Int×Int := v_cs p0
abbrev qre_Z3 (_p0:List (Int×Int×Int×Int×Int)):List Prop := []
theorem pp_Z3 (p0:List (Int×Int×Int×Int×Int)) (_hq:∀ p∈qre_Z3 p0,p):∀ p∈pre_Z3 p0,p := by
 simp only [pre_Z3,fM]
 exact ⟨fun _ h => (l_Z3_0 p0 (by have := of_decide_eq_false h; omega)).1,by simp⟩
theorem tt_Z3 (p0:List (Int×Int×Int×Int×Int)) (_hq:∀ p∈qre_Z3 p0,p):s_Z3 p0 = t_Z3 p0 := by
 unfold s_Z3 t_Z3 v_cs
 cases h:decide ((p0.length:Int) > 20)
 ·rw [(l_Z3_0 p0 (by have := of_decide_eq_false h; omega)).2]
 ·rfl

abbrev con_Z3:Con := ⟨P_Z3,R_Z3,fun x => qre_Z3 x,fun x => t_Z3 x⟩
theorem ok_Z3:ConOk Try.prog 34 con_Z3 := okG k_Z3 e_Z3 hC_Z3 fun x hx => tf_of (w_Z3_eq x _) (d_Z3 x _ (pp_Z3 x hx) (tt_Z3 x hx))
def C_Zo:Cons := [(86,[],con_Z5)]
theorem hC_Zo:ConsOk Try.prog C_Zo := cC ok_Z5 <| ConsOk.nil
def w_Zo (p0:Int) (K:Bool→Prop):Prop := (K (s_Z5 p0 zz0 (1000000000000:Int)))
theorem w_Zo_eq (p0:Int) (K:Bool→Prop):tfn F_Zo A_Zo C_Zo P_Zo R_Zo p0 K = w_Zo p0 K := by kernel_rfl
def s_Zo (p0:Int):Bool := (s_Z5 p0 (0:Int) (1000000000000:Int))
abbrev pre_Zo (_p0:Int):List Prop := []
theorem d_Zo (p0:Int) (K:Bool→Prop) (_hp:∀ p∈pre_Zo p0,p) (h:K (s_Zo p0)):w_Zo p0 K := by
 unfold w_Zo
 unfold s_Zo at h
 exact h
abbrev con_Zo:Con := ⟨P_Zo,R_Zo,fun x => pre_Zo x,fun x => s_Zo x⟩
theorem ok_Zo:ConOk Try.prog 84 con_Zo := okG k_Zo e_Zo hC_Zo fun x hx => tf_of (w_Zo_eq x _) (d_Zo x _ hx rfl)
def C_Zp:Cons := [(83,[],con_Zl)]
theorem hC_Zp:ConsOk Try.prog C_Zp := cC ok_Zl <| ConsOk.nil
def w_Zp (p0:Int) (K:Bool→Prop):Prop := (K (s_Z5 p0 (-10:Int) (10:Int)))
theorem w_Zp_eq (p0:Int) (K:Bool→Prop):tfn F_Zp A_Zp C_Zp P_Zp R_Zp p0 K = w_Zp p0 K := by kernel_rfl
def s_Zp (p0:Int):Bool := (s_Z5 p0 (-10:Int) (10:Int))
abbrev pre_Zp (_p0:Int):List Prop := []
theorem d_Zp (p0:Int) (K:Bool→Prop) (_hp:∀ p∈pre_Zp p0,p) (h:K (s_Zp p0)):w_Zp p0 K := by
 unfold w_Zp
 unfold s_Zp at h
 exact h
abbrev con_Zp:Con := ⟨P_Zp,R_Zp,fun x => pre_Zp x,fun x => s_Zp x⟩
theorem ok_Zp:ConOk Try.prog 82 con_Zp := okG k_Zp e_Zp hC_Zp fun x hx => tf_of (w_Zp_eq x _) (d_Zp x _ hx rfl)
def C_Z1:Cons := [(66,[],con_Z4),(71,[],con_Z9),(84,[],con_Zo),(82,[],con_Zp),(85,[],con_Zk)]
theorem hC_Z1:ConsOk Try.prog C_Z1 := cC ok_Z4 <| cC ok_Z9 <| cC ok_Zo <| cC ok_Zp <| cC ok_Zk <| ConsOk.nil
abbrev q1_Z1 (p0:(List (Int×(Int×(Int×(Int×Int)))))) (y1:gG) := (p0.getD y1.1.toNat (zz0,(zz0,(zz0,(zz0,zz0)))))
abbrev q6_Z1 (p0:(List (Int×(Int×(Int×(Int×Int)))))) (y1:gG) := (s_Z5 (q1_Z1 p0 y1).1 zz0 (1000000000000:Int))
abbrev q2_Z1 (p0:(List (Int×(Int×(Int×(Int×Int)))))) (y1:gG) := (cond (q6_Z1 p0 y1) (s_Z5 (q1_Z1 p0 y1).2.1 (-10:Int) (10:Int)) false)
abbrev q0_Z1 (p0:(List (Int×(Int×(Int×(Int×Int)))))) (y1:gG) := (cond (q2_Z1 p0 y1) (s_Z5 (q1_Z1 p0 y1).2.2.1 (-10:Int) (10:Int)) false)
abbrev q4_Z1 (p0:(List (Int×(Int×(Int×(Int×Int)))))) (y1:gG) := (cond (q0_Z1 p0 y1) (s_Z5 (q1_Z1 p0 y1).2.2.2.1 (-10:Int) (10:Int)) false)
abbrev q3_Z1 (p0:(List (Int×(Int×(Int×(Int×Int)))))) (y1:gG) := ((s_Z4 (cond (q4_Z1 p0 y1) (s_Z5 (q1_Z1 p0 y1).2.2.2.2 (-100000:Int) (100000:Int)) false) zz2) :: ((s_Z4 (decide ((q1_Z1 p0 y1).1 > y1.2)) (9:Int)) :: ([]:List Int)))
abbrev q5_Z1 (p0:(List (Int×(Int×(Int×(Int×Int)))))) := ((s_Z4 (decide ((p0.length:Int) > zz0)) (10:Int)) :: ((s_Z4 (decide ((p0.length:Int)≤20)) (8:Int)) :: ([]:List Int)))
def w_Z1 (p0:(List (Int×(Int×(Int×(Int×Int)))))) (K:(Int×Int)→Prop):Prop := ((lenOk (q5_Z1 p0)) ∧(((((v_first (q5_Z1 p0)) != zz0)=true) →(K (zz0,(v_first (q5_Z1 p0))))) ∧((((v_first (q5_Z1 p0)) != zz0)=false) →(∃ n0,(loopP (fun (y1:gG) k2 => ((((decide (y1.1 < (p0.length:Int)))=true) →((zz0≤y1.1) ∧((y1.1 < (p0.length:Int)) ∧((((q6_Z1 p0 y1)=true) →((q6_Z1 p0 y1)=(q6_Z1 p0 y1))) ∧((((q6_Z1 p0 y1)=true) →((q6_Z1 p0 y1)=(q6_Z1 p0 y1))) ∧((((q6_Z1 p0 y1)=true) →((q6_Z1 p0 y1)=(q6_Z1 p0 y1))) ∧(((q6_Z1 p0 y1)=(q6_Z1 p0 y1)) ∧((((q2_Z1 p0 y1)=true) →((q2_Z1 p0 y1)=(q2_Z1 p0 y1))) ∧((((q2_Z1 p0 y1)=true) →((q2_Z1 p0 y1)=(q2_Z1 p0 y1))) ∧((((q2_Z1 p0 y1)=true) →((q2_Z1 p0 y1)=(q2_Z1 p0 y1))) ∧(((q2_Z1 p0 y1)=(q2_Z1 p0 y1)) ∧((((q0_Z1 p0 y1)=true) →((q0_Z1 p0 y1)=(q0_Z1 p0 y1))) ∧((((q0_Z1 p0 y1)=true) →((q0_Z1 p0 y1)=(q0_Z1 p0 y1))) ∧((((q0_Z1 p0 y1)=true) →((q0_Z1 p0 y1)=(q0_Z1 p0 y1))) ∧(((q0_Z1 p0 y1)=(q0_Z1 p0 y1)) ∧((((q4_Z1 p0 y1)=true) →((q4_Z1 p0 y1)=(q4_Z1 p0 y1))) ∧((((q4_Z1 p0 y1)=true) →((q4_Z1 p0 y1)=(q4_Z1 p0 y1))) ∧(((q4_Z1 p0 y1)=(q4_Z1 p0 y1)) ∧((lenOk (q3_Z1 p0 y1)) ∧(((((v_first (q3_Z1 p0 y1)) != zz0)=true) →(K (y1.1,(v_first (q3_Z1 p0 y1))))) ∧((((v_first (q3_Z1 p0 y1)) != zz0)=false) →(k2 ((wi (y1.1 + zz1)),(q1_Z1 p0 y1).1))))))))))))))))))))))) ∧(((decide (y1.1 < (p0.length:Int)))=false) →(K (zz0,zz0))))) n0 (zz0,(-1:Int)))))))
theorem w_Z1_eq (p0:(List (Int×(Int×(Int×(Int×Int)))))) (K:(Int×Int)→Prop):tfn F_Z1 A_Z1 C_Z1 P_Z1 R_Z1 p0 K = w_Z1 p0 K := by kernel_rfl
def st_Z1_0 (p0:(List (Int×(Int×(Int×(Int×Int)))))) (y1:gG):(Int×Int) ⊕ (Int×Int) := (cond (decide (y1.1 < (p0.length:Int))) (cond ((v_first ((s_Z4 (cond (cond (cond (cond (s_Z5 (p0.getD y1.1.toNat ((0:Int),((0:Int),((0:Int),(0,0))))).1 (0:Int) (1000000000000:Int)) (s_Z5 (p0.getD y1.1.toNat ((0:Int),((0:Int),((0:Int),(0,0))))).2.1 (-10:Int) (10:Int)) false) (s_Z5 (p0.getD y1.1.toNat ((0:Int),((0:Int),((0:Int),(0,0))))).2.2.1 (-10:Int) (10:Int)) false) (s_Z5 (p0.getD y1.1.toNat ((0:Int),((0:Int),((0:Int),(0,0))))).2.2.2.1 (-10:Int) (10:Int)) false) (s_Z5 (p0.getD y1.1.toNat ((0:Int),((0:Int),((0:Int),(0,0))))).2.2.2.2 (-100000:Int) (100000:Int)) false) (2:Int)) :: ((s_Z4 (decide ((p0.getD y1.1.toNat ((0:Int),((0:Int),((0:Int),(0,0))))).1 > y1.2)) (9:Int)) :: ([]:List Int)))) != 0) (Sum.inr (y1.1,(v_first ((s_Z4 (cond (cond (cond (cond (s_Z5 (p0.getD y1.1.toNat ((0:Int),((0:Int),((0:Int),(0,0))))).1 (0:Int) (1000000000000:Int)) (s_Z5 (p0.getD y1.1.toNat ((0:Int),((0:Int),((0:Int),(0,0))))).2.1 (-10:Int) (10:Int)) false) (s_Z5 (p0.getD y1.1.toNat ((0:Int),((0:Int),((0:Int),(0,0))))).2.2.1 (-10:Int) (10:Int)) false) (s_Z5 (p0.getD y1.1.toNat ((0:Int),((0:Int),((0:Int),(0,0))))).2.2.2.1 (-10:Int) (10:Int)) false) (s_Z5 (p0.getD y1.1.toNat ((0:Int),((0:Int),((0:Int),(0,0))))).2.2.2.2 (-100000:Int) (100000:Int)) false) (2:Int)) :: ((s_Z4 (decide ((p0.getD y1.1.toNat ((0:Int),((0:Int),((0:Int),(0,0))))).1 > y1.2)) (9:Int)) :: ([]:List Int)))))) (Sum.inl ((IntKind.i64.wrap (y1.1 + 1)),(p0.getD y1.1.toNat ((0:Int),((0:Int),((0:Int),(0,0))))).1))) (Sum.inr (0,0)))
abbrev sp_Z1_0 (p0:(List (Int×(Int×(Int×(Int×Int)))))) (y1:gG):List Prop := [(((decide (y1.1 < (p0.length:Int)))=true)→((0:Int)≤y1.1)),(((decide (y1.1 < (p0.length:Int)))=true)→(y1.1 < (p0.length:Int)))]
def s_Z1 (p0:(List (Int×(Int×(Int×(Int×Int)))))):(Int×Int) := (cond ((v_first ((s_Z4 (decide ((p0.length:Int) > 0)) (10:Int)) :: ((s_Z4 (decide ((p0.length:Int)≤20)) (8:Int)) :: ([]:List Int)))) != 0) ((0:Int),(v_first ((s_Z4 (decide ((p0.length:Int) > 0)) (10:Int)) :: ((s_Z4 (decide ((p0.length:Int)≤20)) (8:Int)) :: ([]:List Int))))) (lpv (0,0) (st_Z1_0 p0) ((0:Int),(-1:Int))))
abbrev pre_Z1 (p0:(List (Int×(Int×(Int×(Int×Int)))))):List Prop := [((((v_first ((s_Z4 (decide ((p0.length:Int) > 0)) (10:Int)) :: ((s_Z4 (decide ((p0.length:Int)≤20)) (8:Int)) :: ([]:List Int)))) != 0)=false)→(OkL (st_Z1_0 p0) (sp_Z1_0 p0) ((0:Int),(-1:Int))))]
theorem d_Z1 (p0:(List (Int×(Int×(Int×(Int×Int)))))) (K:(Int×Int)→Prop) (hp:∀ p∈pre_Z1 p0,p) (h:K (s_Z1 p0)):w_Z1 p0 K := by
 unfold w_Z1
 unfold s_Z1 at h
 obtain ⟨hp0,_⟩ := conj_of hp
 exact ⟨(lenOk_of 2 rfl (by decide)),(br' h (fun e0 h => h)
  (fun e0 h => (loop_gen (hp0 e0) h (fun y1 k1 hp h => by
 unfold st_Z1_0 at h; obtain ⟨hp0,hp1,_⟩ := conj_of hp
 exact (br' h (fun e2 h => ⟨(hp0 e2),(hp1 e2),rf,rf,rf,rfl,rf,rf,rf,rfl,rf,rf,rf,rfl,rf,rf,rfl,(lenOk_of 2 rfl (by decide)),(br' h (fun e3 h => h)
  (fun e3 h => h))⟩)
  (fun e2 h => h))))))⟩
theorem tx_csh {n:Int} (h:0≤n):v_first [s_Z4 (decide (n > 0)) 10,s_Z4 (decide (n≤20)) 8]=cond (n == 0) 10 (cond (decide (n > 20)) 8 0) := by
 unfold s_Z4
 rcases int0 n with ⟨h0,_,e0⟩ | ⟨h0,_,e0⟩
 ·subst h0; rfl
 ·rw [e0,decide_eq_true (show n > 0 by omega)]
  rcases dec0 (a := 20) (b := n) with ⟨_,_,_,e1,e2⟩ | ⟨_,_,_,e1,e2⟩ <;> rw [e1,e2] <;> rfl
theorem tx_len {p0:List (Int×Int×Int×Int×Int)} (h:(v_first [s_Z4 (decide ((p0.length:Int) > 0)) 10,s_Z4 (decide ((p0.length:Int)≤20)) 8] != 0)=false):p0.length≤20 := by
 rw [tx_csh (by omega)] at h
 cases c:decide ((p0.length:Int) > 20)
 ·have := of_decide_eq_false c; omega
 ·rw [c] at h
  cases c2:((p0.length:Int) == 0) <;> rw [c2] at h <;> cases h
theorem v_svalm {x:Int×Int×Int×Int×Int}:cond (cond (cond (cond (s_Z5 x.1 0 1000000000000) (s_Z5 x.2.1 (-10) 10) false) (s_Z5 x.2.2.1 (-10) 10) false) (s_Z5 x.2.2.2.1 (-10) 10) false) (s_Z5 x.2.2.2.2 (-100000) 100000) false = v_sval x := by
 rw [tx_withinG,tx_withinG,tx_withinG,tx_withinG,tx_withinG]
 unfold v_sval
 cases s_Z2 x.1 0 1000000000000 <;> cases s_Z2 x.2.1 (-10) 10 <;> cases s_Z2 x.2.2.1 (-10) 10 <;> cases s_Z2 x.2.2.2.1 (-10) 10 <;> rfl
theorem v_sval_t {x:Int×Int×Int×Int×Int} (h:v_sval x = true):0≤x.1 := by
 unfold v_sval at h
 cases c:s_Z2 x.1 0 1000000000000
 ·rw [c] at h; cases h
 ·exact (tx_within.1 c).1
theorem l_Z1_0 (p0:List (Int×Int×Int×Int×Int)) (hl:p0.length≤20):OkL (st_Z1_0 p0) (sp_Z1_0 p0) (0,-1)∧lpv ((0,0):Int×Int) (st_Z1_0 p0) (0,-1)=v_scan (v_cs1 p0) ((0,0):Int×Int) 0 p0 := by
 refine @for_is Int (Int×Int) (Int×Int) (0,0) (st_Z1_0 p0) (sp_Z1_0 p0) (fun i t => (i,t)) 0 p0.length (fun j t => t = if j = 0 then -1 else (p0.getD (j - 1) (0,0,0,0,0)).1) (fun j _ => v_scan (v_cs1 p0) ((0,0):Int×Int) (j:Int) (p0.drop j)) (by omega) (by omega) ?_ ?_ (-1) rfl
 ·intro t _
  rw [List.drop_length]
  simp only [sp_Z1_0,st_Z1_0,fM,show decide ((p0.length:Int) < (p0.length:Int))=false from decide_eq_false (by omega),cond_false]
  refine ⟨?_,rfl⟩
  and_intros
  all_goals first
   | (intro h; cases h; done)
   | (intro p hp; cases hp)
 ·intro j t _ hj ht
  have hd1:decide ((j:Int) < (p0.length:Int))=true := decide_eq_true (by omega)
  have hw1:IntKind.i64.wrap ((j:Int) + 1)=((j + 1:Nat):Int) := wrap_id (by omega) (by omega)
  rw [drop_getD (0,0,0,0,0) hj]
  have e:v_scan (v_cs1 p0) ((0,0):Int×Int) (j:Int) (p0.getD j (0,0,0,0,0) :: p0.drop (j + 1))=match v_cs1 p0 (j:Int) (p0.getD j (0,0,0,0,0)) with | none => v_scan (v_cs1 p0) ((0,0):Int×Int) ((j:Int) + 1) (p0.drop (j + 1)) | some v => v := by simp only [v_scan]; cases v_cs1 p0 (j:Int) (p0.getD j (0,0,0,0,0)) <;> rfl
  rw [e,show (j:Int) + 1 = ((j + 1:Nat):Int) by omega]
  simp only [sp_Z1_0,st_Z1_0,fM,hd1,cond_true,hw1,Int.toNat_natCast,v_svalm]
  refine ⟨?_,?_⟩
  ·and_intros
   all_goals first
    | (intro p hp; cases hp; done)
    | (intros; omega)
  ·unfold v_cs1
   cases hv:v_sval (p0.getD j (0,0,0,0,0))
   ·exact .inr rfl
   ·have h0 := v_sval_t hv
    rcases Nat.eq_zero_or_pos j with rfl | hp
    ·rw [if_pos rfl] at ht
     rw [ht,decide_eq_true (show (p0.getD 0 (0,0,0,0,0)).1 > -1 by omega)]
     exact .inl ⟨_,rfl,by simp,rfl⟩
    ·rw [if_neg (by omega)] at ht
     rw [show ((j:Int) == 0)=false from beq_eq_false_iff_ne.2 (by omega),show ((j:Int) - 1).toNat = j - 1 by omega,ht]
     cases decide ((p0.getD j (0,0,0,0,0)).1 > (p0.getD (j - 1) (0,0,0,0,0)).1)
     ·exact .inr rfl
     ·exact .inl ⟨_,rfl,by simp,rfl⟩
abbrev t_Z1 (p0:List (Int×Int×Int×Int×Int)):Int×Int := v_cs p0
abbrev qre_Z1 (_p0:List (Int×Int×Int×Int×Int)):List Prop := []
theorem pp_Z1 (p0:List (Int×Int×Int×Int×Int)) (_hq:∀ p∈qre_Z1 p0,p):∀ p∈pre_Z1 p0,p := by
 simp only [pre_Z1,fM]
 refine ⟨fun h => ?_,by simp⟩
 exact (l_Z1_0 p0 (tx_len h)).1
theorem tt_Z1 (p0:List (Int×Int×Int×Int×Int)) (_hq:∀ p∈qre_Z1 p0,p):s_Z1 p0 = t_Z1 p0 := by
 unfold s_Z1 t_Z1 v_cs
 rw [tx_csh (by omega)]
 cases h:decide ((p0.length:Int) > 20)
 ·rw [(l_Z1_0 p0 (by have := of_decide_eq_false h; omega)).2]
  cases ((p0.length:Int) == 0) <;> rfl
 ·cases ((p0.length:Int) == 0) <;> rfl

abbrev con_Z1:Con := ⟨P_Z1,R_Z1,fun x => qre_Z1 x,fun x => t_Z1 x⟩
theorem ok_Z1:ConOk Try.prog 32 con_Z1 := okG k_Z1 e_Z1 hC_Z1 fun x hx => tf_of (w_Z1_eq x _) (d_Z1 x _ (pp_Z1 x hx) (tt_Z1 x hx))
/-- Valid samples. -/
structure v_sok1 (q:Int×Int×Int×Int×Int):Prop where
 t:0≤q.1∧q.1≤1000000000000
 x : -10≤q.2.1∧q.2.1≤10
 y : -10≤q.2.2.1∧q.2.2.1≤10
 z : -10≤q.2.2.2.1∧q.2.2.2.1≤10
 v : -100000≤q.2.2.2.2∧q.2.2.2.2≤100000
structure v_smp (l:List (Int×Int×Int×Int×Int)):Prop where
 ne:l ≠ []
 len:l.length≤20
 ok:∀ x∈l,v_sok1 x
 asc:∀ k,0 < k→k < l.length→(l.getD (k - 1) (0,0,0,0,0)).1 < (l.getD k (0,0,0,0,0)).1
theorem v_sval_iff {x:Int×Int×Int×Int×Int}:v_sval x = true ↔ v_sok1 x := by
 unfold v_sval
 constructor
 ·intro h
  cases c1:s_Z2 x.1 0 1000000000000 <;> cases c2:s_Z2 x.2.1 (-10) 10 <;> cases c3:s_Z2 x.2.2.1 (-10) 10 <;> cases c4:s_Z2 x.2.2.2.1 (-10) 10 <;> cases c5:s_Z2 x.2.2.2.2 (-100000) 100000 <;> rw [c1,c2,c3,c4,c5] at h <;> try (cases h; done)
  exact ⟨tx_within.1 c1,tx_within.1 c2,tx_within.1 c3,tx_within.1 c4,tx_within.1 c5⟩
 ·rintro ⟨h1,h2,h3,h4,h5⟩
  rw [tx_within.2 h1,tx_within.2 h2,tx_within.2 h3,tx_within.2 h4,tx_within.2 h5]; rfl
theorem v_cs1_none {l:List (Int×Int×Int×Int×Int)} {k:Nat} {x:Int×Int×Int×Int×Int}:v_cs1 l (k:Int) x = none ↔ v_sok1 x∧(0 < k→(l.getD (k - 1) (0,0,0,0,0)).1 < x.1) := by
 unfold v_cs1
 have hk:((k:Int) - 1).toNat = k - 1 := by omega
 rw [hk]
 cases hv:v_sval x
 ·simp only [cond_false,reduceCtorEq,false_iff]
  rintro ⟨h,_⟩
  rw [v_sval_iff.2 h] at hv; cases hv
 ·have hs := v_sval_iff.1 hv
  rcases int0 (k:Int) with ⟨h0,_,e⟩ | ⟨h0,_,e⟩ <;> rw [e]
  ·simp only [cond_true,true_iff]
   exact ⟨hs,fun h => by omega⟩
  ·simp only [cond_true,cond_false]
   cases c:decide (x.1 > (l.getD (k - 1) (0,0,0,0,0)).1)
   ·have := of_decide_eq_false c
    simp only [cond_false,reduceCtorEq,false_iff]
    rintro ⟨_,h⟩
    have := h (by omega)
    omega
   ·have := of_decide_eq_true c
    simp only [cond_true,true_iff]
    exact ⟨hs,fun _ => this⟩
theorem v_cs_iff {l:List (Int×Int×Int×Int×Int)}:(v_cs l).2 = 0 ↔ v_smp l := by
 constructor
 ·intro h
  unfold v_cs at h
  rcases int0 (l.length:Int) with ⟨_,_,e0⟩ | ⟨h0,_,e0⟩
  ·rw [e0] at h; cases h
  rw [e0] at h
  rcases dec0 (a := 20) (b := (l.length:Int)) with ⟨_,_,_,_,e1⟩ | ⟨h1,_,_,_,e1⟩
  ·rw [e1] at h; cases h
  rw [e1] at h
  simp only [cond_false] at h
  have key := v_scan_end (f := v_cs1 l) (e := ((0,0):Int×Int)) (P := fun (r:gG) => r.2 = 0) l 0 h (fun j x v _ hv hv0 => by
   unfold v_cs1 at hv
   cases c1:v_sval x <;> rw [c1] at hv
   ·simp only [cond_false,sJ] at hv; subst hv; cases hv0
   ·cases c2:cond (j == 0) true (decide (x.1 > (l.getD (j - 1).toNat (0,0,0,0,0)).1)) <;> rw [c2] at hv
    ·simp only [cond_true,cond_false,sJ] at hv; subst hv; cases hv0
    ·cases hv)
  have key2:∀ k,(hk:k < l.length)→v_sok1 (l.getD k (0,0,0,0,0))∧(0 < k→(l.getD (k - 1) (0,0,0,0,0)).1 < (l.getD k (0,0,0,0,0)).1) := fun k hk => by
   have := key k hk
   rw [Int.zero_add] at this
   rw [gd_get (0,0,0,0,0) hk]
   exact v_cs1_none.1 this
  refine ⟨by rintro rfl; exact h0 rfl,by omega,fun x hx => ?_,fun k h0 hk => (key2 k hk).2 h0⟩
  obtain ⟨k,hk,rfl⟩ := List.getElem_of_mem hx
  rw [← gd_get (0,0,0,0,0) hk]
  exact (key2 k hk).1
 ·intro h
  have h0:0 < l.length := List.length_pos_iff.2 h.ne
  have hl := h.len
  unfold v_cs
  rw [show ((l.length:Int) == 0)=false from beq_eq_false_iff_ne.2 (by omega),decide_eq_false (show ¬ (l.length:Int) > 20 by omega)]
  simp only [cond_false]
  have key:∀ (r:List (Int×Int×Int×Int×Int)) (k:Nat),l.drop k = r→v_scan (v_cs1 l) ((0,0):Int×Int) (k:Int) r = (0,0) := by
   intro r
   induction r with
   | nil => intro k _; rfl
   | cons x r ih =>
    intro k e
    have hk:k < l.length := by
     rcases Nat.lt_or_ge k l.length with g | g
     ·exact g
     ·rw [List.drop_eq_nil_of_le g] at e; cases e
    rw [drop_getD (0,0,0,0,0) hk] at e
    simp only [List.cons.injEq] at e
    obtain ⟨e1,e2⟩ := e
    unfold v_scan
    rw [v_cs1_none.2 ⟨e1 ▸ h.ok _ (getD_mem' _ hk),fun h0 => e1 ▸ h.asc k h0 hk⟩]
    have := ih (k + 1) e2
    rw [Int.natCast_add] at this
    exact this
  rw [show v_scan (v_cs1 l) ((0,0):Int×Int) 0 l = (0,0) from key l 0 rfl]
def C_Zn:Cons := [(32,[],con_Z1)]
theorem hC_Zn:ConsOk Try.prog C_Zn := cC ok_Z1 <| ConsOk.nil
def w_Zn (p0:(List (Int×(Int×(Int×(Int×Int)))))) (K:Int→Prop):Prop := (K (v_cs p0).2)
theorem w_Zn_eq (p0:(List (Int×(Int×(Int×(Int×Int)))))) (K:Int→Prop):tfn F_Zn A_Zn C_Zn P_Zn R_Zn p0 K = w_Zn p0 K := by kernel_rfl
def s_Zn (p0:(List (Int×(Int×(Int×(Int×Int)))))):Int := (v_cs p0).2
abbrev pre_Zn (_p0:(List (Int×(Int×(Int×(Int×Int)))))):List Prop := []
theorem d_Zn (p0:(List (Int×(Int×(Int×(Int×Int)))))) (K:Int→Prop) (_hp:∀ p∈pre_Zn p0,p) (h:K (s_Zn p0)):w_Zn p0 K := by
 unfold w_Zn
 unfold s_Zn at h
 exact h
abbrev con_Zn:Con := ⟨P_Zn,R_Zn,fun x => pre_Zn x,fun x => s_Zn x⟩
theorem ok_Zn:ConOk Try.prog 72 con_Zn := okG k_Zn e_Zn hC_Zn fun x hx => tf_of (w_Zn_eq x _) (d_Zn x _ hx rfl)
def C_Zb:Cons := []
theorem hC_Zb:ConsOk Try.prog C_Zb := ConsOk.nil
def w_Zb (p0:gF) (p1:gF) (p2:Int) (K:(Int×Int)→Prop):Prop := (∃ n0,(loopP (fun (y1:(Int×(Int×Int))) k2 => ((((decide (y1.1 < (IntKind.i64.wrap ((p0.length:Int) - p2))))=true) →((zz0≤(IntKind.i64.wrap (y1.1 + p2))) ∧(((IntKind.i64.wrap (y1.1 + p2)) < (p0.length:Int)) ∧((zz0≤(IntKind.i64.wrap (y1.1 - p2))) ∧(((IntKind.i64.wrap (y1.1 - p2)) < (p1.length:Int)) ∧(k2 ((IntKind.i64.wrap (y1.1 + 1)),((IntKind.i64.wrap (y1.2.1 + 1)),(IntKind.i64.wrap (y1.2.2 + (max (IntKind.i64.wrap ((p0.getD (Int.toNat (IntKind.i64.wrap (y1.1 + p2))) zz0) - (p1.getD (Int.toNat (IntKind.i64.wrap (y1.1 - p2))) zz0))) (IntKind.i64.wrap (zz0 - (IntKind.i64.wrap ((p0.getD (Int.toNat (IntKind.i64.wrap (y1.1 + p2))) zz0) - (p1.getD (Int.toNat (IntKind.i64.wrap (y1.1 - p2))) zz0)))))))))))))))) ∧(((decide (y1.1 < (IntKind.i64.wrap ((p0.length:Int) - p2))))=false) →(K (y1.2.2,y1.2.1))))) n0 (p2,(zz0,zz0))))
theorem w_Zb_eq (p0:gF) (p1:gF) (p2:Int) (K:(Int×Int)→Prop):tfn F_Zb A_Zb C_Zb P_Zb R_Zb (p0,p1,p2) K = w_Zb p0 p1 p2 K := by kernel_rfl
def st_Zb_0 (p0:gF) (p1:gF) (p2:Int) (y0:(Int×(Int×Int))):(Int×(Int×Int)) ⊕ (Int×Int) := (cond (decide (y0.1 < (IntKind.i64.wrap ((p0.length:Int) - p2)))) (Sum.inl ((IntKind.i64.wrap (y0.1 + 1)),((IntKind.i64.wrap (y0.2.1 + 1)),(IntKind.i64.wrap (y0.2.2 + (max (IntKind.i64.wrap ((p0.getD (Int.toNat (IntKind.i64.wrap (y0.1 + p2))) (0:Int)) - (p1.getD (Int.toNat (IntKind.i64.wrap (y0.1 - p2))) (0:Int)))) (IntKind.i64.wrap ((0:Int) - (IntKind.i64.wrap ((p0.getD (Int.toNat (IntKind.i64.wrap (y0.1 + p2))) (0:Int)) - (p1.getD (Int.toNat (IntKind.i64.wrap (y0.1 - p2))) (0:Int)))))))))))) (Sum.inr (y0.2.2,y0.2.1)))
abbrev sp_Zb_0 (p0:gF) (p1:gF) (p2:Int) (y0:(Int×(Int×Int))):List Prop := [(((decide (y0.1 < (IntKind.i64.wrap ((p0.length:Int) - p2))))=true)→((0:Int)≤(IntKind.i64.wrap (y0.1 + p2)))),(((decide (y0.1 < (IntKind.i64.wrap ((p0.length:Int) - p2))))=true)→((IntKind.i64.wrap (y0.1 + p2)) < (p0.length:Int))),(((decide (y0.1 < (IntKind.i64.wrap ((p0.length:Int) - p2))))=true)→((0:Int)≤(IntKind.i64.wrap (y0.1 - p2)))),(((decide (y0.1 < (IntKind.i64.wrap ((p0.length:Int) - p2))))=true)→((IntKind.i64.wrap (y0.1 - p2)) < (p1.length:Int)))]
def s_Zb (p0:gF) (p1:gF) (p2:Int):(Int×Int) := (lpv (0,0) (st_Zb_0 p0 p1 p2) (p2,(0,0)))
abbrev pre_Zb (p0:gF) (p1:gF) (p2:Int):List Prop := [(OkL (st_Zb_0 p0 p1 p2) (sp_Zb_0 p0 p1 p2) (p2,(0,0)))]
theorem d_Zb (p0:gF) (p1:gF) (p2:Int) (K:(Int×Int)→Prop) (hp:∀ p∈pre_Zb p0 p1 p2,p) (h:K (s_Zb p0 p1 p2)):w_Zb p0 p1 p2 K := by
 unfold w_Zb
 unfold s_Zb at h
 obtain ⟨hp0,_⟩ := conj_of hp
 exact (loop_gen (hp0) h (fun y0 k0 hp h => by
 unfold st_Zb_0 at h; obtain ⟨hp0,hp1,hp2,hp3,_⟩ := conj_of hp
 exact (br' h (fun e1 h => ⟨(hp0 e1),(hp1 e1),(hp2 e1),(hp3 e1),h⟩)
  (fun e1 h => h))))
/-- How far two series miss one another by a lag: the sum,the count. -/
def v_ms (o b:gF) (g:Nat):Nat→Int
 | 0 => 0
 | k + 1 => v_ms o b g k + max (o.getD (k + 2 * g) 0 - b.getD k 0) (0 - (o.getD (k + 2 * g) 0 - b.getD k 0))
def v_mis (o b:gF) (g:Nat):Int×Int := (v_ms o b g (o.length - 2 * g),((o.length - 2 * g:Nat):Int))
theorem v_ms_le {o b:List Int} {g:Nat} (h1:v_ser o) (h2:v_ser b) (he:o.length = b.length):∀ k:Nat,k + 2 * g≤o.length→0≤v_ms o b g k∧v_ms o b g k≤200000 * k
 | 0,_ => ⟨Int.le_refl _,Int.le_refl _⟩
 | k + 1,h => by
  have ih := v_ms_le (g := g) h1 h2 he k (by omega)
  have ga := v_ser_get h1 (show k + 2 * g < o.length by omega)
  have gb := v_ser_get h2 (show k < b.length by omega)
  unfold v_ms
  omega
theorem v_mis_le {o b:List Int} {g:Nat} (h1:v_ser o) (h2:v_ser b) (he:o.length = b.length):0≤(v_mis o b g).1∧(v_mis o b g).1≤8000000∧0≤(v_mis o b g).2∧(v_mis o b g).2≤40 := by
 have hl := h1.len
 unfold v_mis
 rcases Nat.lt_or_ge (2 * g) o.length with h | h
 ·have := v_ms_le h1 h2 he (g := g) (o.length - 2 * g) (by omega)
  simp only; omega
 ·rw [show o.length - 2 * g = 0 by omega]
  show (0:Int)≤0∧(0:Int)≤8000000∧(0:Int)≤0∧(0:Int)≤40
  decide
theorem v_mis_pos {o b:List Int} {g:Nat} (h:2 * g < o.length):0 < (v_mis o b g).2 := by unfold v_mis; simp only; omega
theorem l_Zb_0 (p0 p1:gF) (g:Nat) (h1:v_ser p0) (h2:v_ser p1) (he:p0.length = p1.length) (hg:g≤5):OkL (st_Zb_0 p0 p1 g) (sp_Zb_0 p0 p1 g) ((g:Int),0,0)∧lpv (0,0) (st_Zb_0 p0 p1 g) ((g:Int),0,0)=v_mis p0 p1 g := by
 have hl := h1.len
 have hne := h1.ne
 have hx:IntKind.i64.wrap ((p0.length:Int) - g)=(p0.length:Int) - g := wrap_id (by omega) (by omega)
 have main := @for_is (Int×Int) (Int×Int×Int) (Int×Int) (0,0) (st_Zb_0 p0 p1 g) (sp_Zb_0 p0 p1 g) (fun i t => (i,t)) g (max g (p0.length - g)) (fun j t => t = (((j - g:Nat):Int),v_ms p0 p1 g (j - g))) (fun _ _ => v_mis p0 p1 g) (by omega) (by omega) ?_ ?_ (0,0) (by rw [Nat.sub_self]; rfl)
 ·exact main
 ·rintro t h1
  have hd:decide (((max g (p0.length - g):Nat):Int) < (p0.length:Int) - g)=false := decide_eq_false (by omega)
  have e1:max g (p0.length - g) - g = p0.length - 2 * g := by omega
  rw [e1] at h1
  simp only [sp_Zb_0,st_Zb_0,fM,hx,hd,cond_false,h1]
  refine ⟨?_,rfl⟩
  and_intros
  all_goals first
   | (intro h; cases h; done)
   | (intro p hp; cases hp)
 ·rintro j t h0 hj h3
  have hw1:IntKind.i64.wrap ((j:Int) + 1)=((j + 1:Nat):Int) := wrap_id (by omega) (by omega)
  have hw2:IntKind.i64.wrap ((j:Int) + g)=((j + g:Nat):Int) := wrap_id (by omega) (by omega)
  have hw3:IntKind.i64.wrap ((j:Int) - g)=((j - g:Nat):Int) := by rw [wrap_id (by omega) (by omega)]; omega
  have hw4:IntKind.i64.wrap (((j - g:Nat):Int) + 1)=((j + 1 - g:Nat):Int) := by rw [wrap_id (by omega) (by omega)]; omega
  have hd:decide ((j:Int) < (p0.length:Int) - g)=true := decide_eq_true (by omega)
  have ga := v_ser_get h1 (show j + g < p0.length by omega)
  have gb := v_ser_get h2 (show j - g < p1.length by omega)
  have hm := v_ms_le h1 h2 he (g := g) (j - g) (by omega)
  have hs:v_ms p0 p1 g (j + 1 - g)=v_ms p0 p1 g (j - g) + max (p0.getD (j + g) 0 - p1.getD (j - g) 0) (0 - (p0.getD (j + g) 0 - p1.getD (j - g) 0)) := by
   rw [show j + 1 - g = (j - g) + 1 by omega,show j + g = (j - g) + 2 * g by omega]; rfl
  simp only [sp_Zb_0,st_Zb_0,fM,hx,hd,cond_true,h3,hw1,hw2,hw3,hw4,Int.toNat_natCast]
  generalize p0.getD (j + g) 0 = a at *
  generalize p1.getD (j - g) 0 = b at *
  have w1:IntKind.i64.wrap (a - b)=a - b := wrap_id (by omega) (by omega)
  have w2:IntKind.i64.wrap (0 - (a - b))=0 - (a - b) := wrap_id (by omega) (by omega)
  have w3:IntKind.i64.wrap (v_ms p0 p1 g (j - g) + max (a - b) (0 - (a - b)))=v_ms p0 p1 g (j - g) + max (a - b) (0 - (a - b)) := wrap_id (by omega) (by omega)
  simp only [w1,w2,w3]
  refine ⟨?_,.inl ⟨(((j + 1 - g:Nat):Int),v_ms p0 p1 g (j + 1 - g)),by rw [hs],rfl,trivial⟩⟩
  and_intros
  all_goals first
   | (intro p hp; cases hp; done)
   | (intros; omega)
abbrev t_Zb (p0:gF) (p1:gF) (p2:Int):Int×Int := v_mis p0 p1 p2.toNat
abbrev qre_Zb (p0:gF) (p1:gF) (p2:Int):List Prop := [v_ser p0,v_ser p1,p0.length = p1.length,0≤p2∧p2≤5]
theorem pp_Zb (p0:gF) (p1:gF) (p2:Int) (hq:∀ p∈qre_Zb p0 p1 p2,p):∀ p∈pre_Zb p0 p1 p2,p := by
 obtain ⟨h1,h2,h3,h4,_⟩ := conj_of hq
 obtain ⟨g,rfl⟩ : ∃ g:Nat,p2 = g := ⟨p2.toNat,by omega⟩
 simp only [pre_Zb,fM]
 exact ⟨(l_Zb_0 p0 p1 g h1 h2 h3 (by omega)).1,by simp⟩
theorem tt_Zb (p0:gF) (p1:gF) (p2:Int) (hq:∀ p∈qre_Zb p0 p1 p2,p):s_Zb p0 p1 p2 = t_Zb p0 p1 p2 := by
 obtain ⟨h1,h2,h3,h4,_⟩ := conj_of hq
 obtain ⟨g,rfl⟩ : ∃ g:Nat,p2 = g := ⟨p2.toNat,by omega⟩
 exact (l_Zb_0 p0 p1 g h1 h2 h3 (by omega)).2

abbrev con_Zb:Con := ⟨P_Zb,R_Zb,fun x => qre_Zb x.1 x.2.1 x.2.2,fun x => t_Zb x.1 x.2.1 x.2.2⟩
theorem ok_Zb:ConOk Try.prog 101 con_Zb := okG k_Zb e_Zb hC_Zb fun x hx => tf_of (w_Zb_eq x.1 x.2.1 x.2.2 _) (d_Zb x.1 x.2.1 x.2.2 _ (pp_Zb x.1 x.2.1 x.2.2 hx) (tt_Zb x.1 x.2.1 x.2.2 hx))
def C_Z6:Cons := [(100,[],con_Zh),(66,[],con_Z4),(71,[],con_Z9),(101,[],con_Zb)]
theorem hC_Z6:ConsOk Try.prog C_Z6 := cC ok_Zh <| cC ok_Z4 <| cC ok_Z9 <| cC ok_Zb <| ConsOk.nil
abbrev q0_Z6 (p0:gF) (p1:gF) := ((v_serr p0) :: ((v_serr p1) :: ((s_Z4 ((p0.length:Int) == (p1.length:Int)) (10:Int)) :: ([]:List Int))))
def w_Z6 (p0:gF) (p1:gF) (K:(Int×Int)→Prop):Prop := ((lenOk p0) ∧((lenOk p1) ∧((lenOk (q0_Z6 p0 p1)) ∧(((((v_first (q0_Z6 p0 p1)) != zz0)=true) →(K (zz0,(v_first (q0_Z6 p0 p1))))) ∧((((v_first (q0_Z6 p0 p1)) != zz0)=false) →((v_ser p0) ∧((v_ser p1) ∧((p0.length = p1.length) ∧(((zz0≤zz0) ∧(zz0≤5)) ∧(∃ n0,(loopP (fun (y1:(Int×(Int×(Int×Int)))) k2 => ((((decide (y1.1≤5))=true) →((decide (y1.1≤5))=(decide (y1.1≤5)))) ∧((((decide (y1.1≤5))=true) →((decide (y1.1≤5))=(decide (y1.1≤5)))) ∧((((decide (y1.1≤5))=true) →((decide (y1.1≤5))=(decide (y1.1≤5)))) ∧((((decide (y1.1≤5))=true) →((decide (y1.1≤5))=(decide (y1.1≤5)))) ∧(((decide (y1.1≤5))=(decide (y1.1≤5))) ∧((((cond (decide (y1.1≤5)) (decide ((wi (zz2 * y1.1)) < (p0.length:Int))) false)=true) →((v_ser p0) ∧((v_ser p1) ∧((p0.length = p1.length) ∧(((zz0≤y1.1) ∧(y1.1≤5)) ∧((((decide ((wi ((v_mis p0 p1 y1.1.toNat).1 * y1.2.2.1)) < (wi (y1.2.1 * (v_mis p0 p1 y1.1.toNat).2))))=true) →(k2 ((wi (y1.1 + zz1)),((v_mis p0 p1 y1.1.toNat).1,((v_mis p0 p1 y1.1.toNat).2,y1.1))))) ∧(((decide ((wi ((v_mis p0 p1 y1.1.toNat).1 * y1.2.2.1)) < (wi (y1.2.1 * (v_mis p0 p1 y1.1.toNat).2))))=false) →(k2 ((wi (y1.1 + zz1)),y1.2))))))))) ∧(((cond (decide (y1.1≤5)) (decide ((wi (zz2 * y1.1)) < (p0.length:Int))) false)=false) →(K (y1.2.2.2,zz0)))))))))) n0 (zz1,((v_mis p0 p1 (Int.toNat zz0)).1,((v_mis p0 p1 (Int.toNat zz0)).2,zz0))))))))))))))
theorem w_Z6_eq (p0:gF) (p1:gF) (K:(Int×Int)→Prop):tfn F_Z6 A_Z6 C_Z6 P_Z6 R_Z6 (p0,p1) K = w_Z6 p0 p1 K := by kernel_rfl
def st_Z6_0 (p0:gF) (p1:gF) (y1:(Int×(Int×(Int×Int)))):(Int×(Int×(Int×Int))) ⊕ (Int×Int) := (cond (cond (decide (y1.1≤5)) (decide ((IntKind.i64.wrap ((2:Int) * y1.1)) < (p0.length:Int))) false) (cond (decide ((IntKind.i64.wrap ((v_mis p0 p1 y1.1.toNat).1 * y1.2.2.1)) < (IntKind.i64.wrap (y1.2.1 * (v_mis p0 p1 y1.1.toNat).2)))) (Sum.inl ((IntKind.i64.wrap (y1.1 + 1)),((v_mis p0 p1 y1.1.toNat).1,((v_mis p0 p1 y1.1.toNat).2,y1.1)))) (Sum.inl ((IntKind.i64.wrap (y1.1 + 1)),y1.2))) (Sum.inr (y1.2.2.2,(0:Int))))
abbrev sp_Z6_0 (p0:gF) (p1:gF) (y1:(Int×(Int×(Int×Int)))):List Prop := [(((cond (decide (y1.1≤5)) (decide ((IntKind.i64.wrap ((2:Int) * y1.1)) < (p0.length:Int))) false)=true)→(v_ser p0)),(((cond (decide (y1.1≤5)) (decide ((IntKind.i64.wrap ((2:Int) * y1.1)) < (p0.length:Int))) false)=true)→(v_ser p1)),(((cond (decide (y1.1≤5)) (decide ((IntKind.i64.wrap ((2:Int) * y1.1)) < (p0.length:Int))) false)=true)→(p0.length = p1.length)),(((cond (decide (y1.1≤5)) (decide ((IntKind.i64.wrap ((2:Int) * y1.1)) < (p0.length:Int))) false)=true)→(((0:Int)≤y1.1)∧(y1.1≤5)))]
def s_Z6 (p0:gF) (p1:gF):(Int×Int) := (cond ((v_first ((v_serr p0) :: ((v_serr p1) :: ((s_Z4 ((p0.length:Int) == (p1.length:Int)) (10:Int)) :: ([]:List Int))))) != 0) ((0:Int),(v_first ((v_serr p0) :: ((v_serr p1) :: ((s_Z4 ((p0.length:Int) == (p1.length:Int)) (10:Int)) :: ([]:List Int)))))) (lpv (0,0) (st_Z6_0 p0 p1) ((1:Int),((v_mis p0 p1 (Int.toNat (0:Int))).1,((v_mis p0 p1 (Int.toNat (0:Int))).2,(0:Int))))))
abbrev pre_Z6 (p0:gF) (p1:gF):List Prop := [(lenOk p0),(lenOk p1),((((v_first ((v_serr p0) :: ((v_serr p1) :: ((s_Z4 ((p0.length:Int) == (p1.length:Int)) (10:Int)) :: ([]:List Int))))) != 0)=false)→(v_ser p0)),((((v_first ((v_serr p0) :: ((v_serr p1) :: ((s_Z4 ((p0.length:Int) == (p1.length:Int)) (10:Int)) :: ([]:List Int))))) != 0)=false)→(v_ser p1)),((((v_first ((v_serr p0) :: ((v_serr p1) :: ((s_Z4 ((p0.length:Int) == (p1.length:Int)) (10:Int)) :: ([]:List Int))))) != 0)=false)→(p0.length = p1.length)),((((v_first ((v_serr p0) :: ((v_serr p1) :: ((s_Z4 ((p0.length:Int) == (p1.length:Int)) (10:Int)) :: ([]:List Int))))) != 0)=false)→(OkL (st_Z6_0 p0 p1) (sp_Z6_0 p0 p1) ((1:Int),((v_mis p0 p1 (Int.toNat (0:Int))).1,((v_mis p0 p1 (Int.toNat (0:Int))).2,(0:Int))))))]
theorem d_Z6 (p0:gF) (p1:gF) (K:(Int×Int)→Prop) (hp:∀ p∈pre_Z6 p0 p1,p) (h:K (s_Z6 p0 p1)):w_Z6 p0 p1 K := by
 unfold w_Z6
 unfold s_Z6 at h
 obtain ⟨hp0,hp1,hp2,hp3,hp4,hp5,_⟩ := conj_of hp
 exact ⟨(hp0),(hp1),(lenOk_of 3 rfl (by decide)),(br' h (fun e0 h => h)
  (fun e0 h => ⟨(hp2 e0),(hp3 e0),(hp4 e0),(od rfl),(loop_gen (hp5 e0) h (fun y1 k1 hp h => by
 unfold st_Z6_0 at h; obtain ⟨hp0,hp1,hp2,hp3,_⟩ := conj_of hp
 exact ⟨rf,rf,rf,rf,rfl,(br' h (fun e2 h => ⟨(hp0 e2),(hp1 e2),(hp2 e2),(hp3 e2),(br' h (fun e3 h => h)
  (fun e3 h => h))⟩)
  (fun e2 h => h))⟩))⟩))⟩
/-- The best lag of those up to one; of all. -/
def v_better (o b:gF) (j r:Nat):Bool := decide ((v_mis o b j).1 * (v_mis o b r).2 < (v_mis o b r).1 * (v_mis o b j).2)
def v_best (o b:gF):Nat→Nat
 | 0 => 0
 | j + 1 => cond (v_better o b (j + 1) (v_best o b j)) (j + 1) (v_best o b j)
theorem v_best_le (o b:gF):∀ j,v_best o b j≤j
 | 0 => Nat.le_refl _
 | j + 1 => by
  have ih := v_best_le o b j
  unfold v_best
  cases v_better o b (j + 1) (v_best o b j)
  ·rw [cond_false]; omega
  ·rw [cond_true]; omega
def v_top (o:gF):Nat := min 5 ((o.length - 1) / 2)
def v_lag (o b:gF):Nat := v_best o b (v_top o)
def v_lerr (o b:gF):Int := v_first [v_serr o,v_serr b,cond ((o.length:Int) == (b.length:Int)) 0 10]
theorem tx_first3 {x y z:Int}:v_first [x,y,z]=cond (x != 0) x (cond (y != 0) y z) := by
 simp only [v_first]
 cases h:(x != 0)
 ·cases h2:(y != 0)
  ·cases h3:(z != 0)
   ·simp at h3; subst h3; rfl
   ·rfl
  ·rfl
 ·rfl
theorem v_lerr_ok {o b:List Int} (h:v_lerr o b = 0):v_ser o∧v_ser b∧o.length = b.length := by
 unfold v_lerr at h
 rw [tx_first3] at h
 rcases int0 (v_serr o) with ⟨z1,e1,_⟩ | ⟨z1,e1,_⟩ <;> rw [e1] at h
 ·rcases int0 (v_serr b) with ⟨z2,e2,_⟩ | ⟨z2,e2,_⟩ <;> rw [e2] at h
  ·refine ⟨v_serr_ok z1,v_serr_ok z2,?_⟩
   cases c:((o.length:Int) == (b.length:Int)) <;> rw [c] at h
   ·cases h
   ·have := eq_of_beq c; omega
  ·exact (z2 h).elim
 ·exact (z1 h).elim
def v_lof (o b:gF):Int×Int := cond (v_lerr o b != 0) (0,v_lerr o b) ((v_lag o b:Int),0)
theorem v_lof_cases (o b:gF):(v_serr o ≠ 0∧v_lof o b = (0,v_serr o)) ∨ v_serr o = 0∧((v_serr b ≠ 0∧v_lof o b = (0,v_serr b)) ∨ v_serr b = 0∧((o.length ≠ b.length∧v_lof o b = (0,10)) ∨ (o.length = b.length∧v_lof o b = ((v_lag o b:Int),0)))) := by
 unfold v_lof v_lerr
 rw [tx_first3]
 rcases int0 (v_serr o) with ⟨z1,e1,_⟩ | ⟨z1,e1,_⟩ <;> rw [e1]
 ·refine .inr ⟨z1,?_⟩
  rcases int0 (v_serr b) with ⟨z2,e2,_⟩ | ⟨z2,e2,_⟩ <;> rw [e2]
  ·refine .inr ⟨z2,?_⟩
   cases c:((o.length:Int) == (b.length:Int))
   ·exact .inl ⟨fun h => by simp [h] at c,rfl⟩
   ·have := eq_of_beq c
    exact .inr ⟨by omega,rfl⟩
  ·exact .inl ⟨z2,by simp only [cond_true,cond_false]; rw [e2]; rfl⟩
 ·exact .inl ⟨z1,by simp only [cond_true]; rw [e1]; rfl⟩
theorem l_Z6_0 (p0 p1:gF) (h1:v_ser p0) (h2:v_ser p1) (he:p0.length = p1.length):OkL (st_Z6_0 p0 p1) (sp_Z6_0 p0 p1) (1,(v_mis p0 p1 0).1,(v_mis p0 p1 0).2,0)∧lpv (0,0) (st_Z6_0 p0 p1) (1,(v_mis p0 p1 0).1,(v_mis p0 p1 0).2,0)=((v_lag p0 p1:Int),0) := by
 have hl := h1.len
 have hne := h1.ne
 have main := @for_is (Int×Int×Int) (Int×Int×Int×Int) (Int×Int) (0,0) (st_Z6_0 p0 p1) (sp_Z6_0 p0 p1) (fun i t => (i,t)) 1 (v_top p0 + 1) (fun j t => t = ((v_mis p0 p1 (v_best p0 p1 (j - 1))).1,(v_mis p0 p1 (v_best p0 p1 (j - 1))).2,(v_best p0 p1 (j - 1):Int))) (fun _ _ => ((v_lag p0 p1:Int),0)) (by omega) (by unfold v_top; omega) ?_ ?_ ((v_mis p0 p1 0).1,(v_mis p0 p1 0).2,0) rfl
 ·exact main
 ·rintro t h3
  have hw:IntKind.i64.wrap (2 * ((v_top p0 + 1:Nat):Int))=2 * ((v_top p0 + 1:Nat):Int) := wrap_id (by unfold v_top; omega) (by unfold v_top; omega)
  have hd:cond (decide (((v_top p0 + 1:Nat):Int)≤5)) (decide (2 * ((v_top p0 + 1:Nat):Int) < (p0.length:Int))) false = false := by
   cases c:decide (((v_top p0 + 1:Nat):Int)≤5)
   ·rfl
   ·have := of_decide_eq_true c
    rw [cond_true]; refine decide_eq_false ?_; unfold v_top at *; omega
  simp only [sp_Z6_0,st_Z6_0,fM,hw,hd,cond_false,h3]
  refine ⟨?_,rfl⟩
  and_intros
  all_goals first
   | (intro h; cases h; done)
   | (intro p hp; cases hp)
 ·rintro j t h0 hj h3
  have hj5:j≤5∧2 * j < p0.length := by unfold v_top at hj; omega
  have hw:IntKind.i64.wrap (2 * (j:Int))=2 * (j:Int) := wrap_id (by omega) (by omega)
  have hw1:IntKind.i64.wrap ((j:Int) + 1)=((j + 1:Nat):Int) := wrap_id (by omega) (by omega)
  have hd1:decide ((j:Int)≤5)=true := decide_eq_true (by omega)
  have hd2:decide (2 * (j:Int) < (p0.length:Int))=true := decide_eq_true (by omega)
  obtain ⟨a1,a2,a3,a4⟩ := v_mis_le (g := j) h1 h2 he
  obtain ⟨b1,b2,b3,b4⟩ := v_mis_le (g := v_best p0 p1 (j - 1)) h1 h2 he
  have hs:v_best p0 p1 (j + 1 - 1)=cond (v_better p0 p1 j (v_best p0 p1 (j - 1))) j (v_best p0 p1 (j - 1)) := by
   obtain ⟨i,rfl⟩ : ∃ i,j = i + 1 := ⟨j - 1,by omega⟩
   rfl
  have hb:v_better p0 p1 j (v_best p0 p1 (j - 1))=v_better p0 p1 j (v_best p0 p1 (j - 1)) := rfl
  conv at hb => { rhs; unfold v_better }
  simp only [sp_Z6_0,st_Z6_0,fM,hw,hw1,hd1,hd2,cond_true,h3,Int.toNat_natCast]
  rw [hs]
  generalize v_best p0 p1 (j - 1)=r at *
  have m1:0≤(v_mis p0 p1 j).1 * (v_mis p0 p1 r).2 := Int.mul_nonneg a1 b3
  have m2:(v_mis p0 p1 j).1 * (v_mis p0 p1 r).2≤8000000 * 40 := Int.mul_le_mul a2 b4 b3 (by decide)
  have m3:0≤(v_mis p0 p1 r).1 * (v_mis p0 p1 j).2 := Int.mul_nonneg b1 a3
  have m4:(v_mis p0 p1 r).1 * (v_mis p0 p1 j).2≤8000000 * 40 := Int.mul_le_mul b2 a4 a3 (by decide)
  rw [wrap_id (show -9223372036854775808≤(v_mis p0 p1 j).1 * (v_mis p0 p1 r).2 by omega) (by omega),wrap_id (show -9223372036854775808≤(v_mis p0 p1 r).1 * (v_mis p0 p1 j).2 by omega) (by omega),← hb]
  refine ⟨?_,?_⟩
  ·and_intros
   all_goals first
    | (intro p hp; cases hp; done)
    | (intros; first | exact h1 | exact h2 | exact he | omega)
  ·cases v_better p0 p1 j r
   ·exact .inl ⟨_,rfl,rfl,trivial⟩
   ·exact .inl ⟨_,rfl,rfl,trivial⟩
abbrev t_Z6 (p0:gF) (p1:gF):Int×Int := v_lof p0 p1
abbrev qre_Z6 (p0:gF) (p1:gF):List Prop := [lenOk p0,lenOk p1]
theorem pp_Z6 (p0:gF) (p1:gF) (hq:∀ p∈qre_Z6 p0 p1,p):∀ p∈pre_Z6 p0 p1,p := by
 obtain ⟨h1,h2,_⟩ := conj_of hq
 simp only [pre_Z6,fM,tx_unless,show ∀ x y:List Int,v_first [v_serr x,v_serr y,cond ((x.length:Int) == (y.length:Int)) 0 10]=v_lerr x y from fun _ _ => rfl]
 refine ⟨h1,h2,?_⟩
 rcases int0 (v_lerr p0 p1) with ⟨z,e,_⟩ | ⟨z,e,_⟩ <;> rw [e]
 ·obtain ⟨s1,s2,s3⟩ := v_lerr_ok z
  have := (l_Z6_0 p0 p1 s1 s2 s3).1
  and_intros
  all_goals first
   | (intro p hp; cases hp; done)
   | (intros; first | exact s1 | exact s2 | exact s3 | exact this | omega)
 ·and_intros
  all_goals first
   | (intro h; cases h; done)
   | (intro p hp; cases hp)
theorem tt_Z6 (p0:gF) (p1:gF) (_hq:∀ p∈qre_Z6 p0 p1,p):s_Z6 p0 p1 = t_Z6 p0 p1 := by
 unfold s_Z6 t_Z6 v_lof
 simp only [tx_unless,show ∀ x y:List Int,v_first [v_serr x,v_serr y,cond ((x.length:Int) == (y.length:Int)) 0 10]=v_lerr x y from fun _ _ => rfl]
 rcases int0 (v_lerr p0 p1) with ⟨z,e,_⟩ | ⟨z,e,_⟩ <;> rw [e]
 ·obtain ⟨s1,s2,s3⟩ := v_lerr_ok z
  exact (l_Z6_0 p0 p1 s1 s2 s3).2
 ·rfl

abbrev con_Z6:Con := ⟨P_Z6,R_Z6,fun x => qre_Z6 x.1 x.2,fun x => t_Z6 x.1 x.2⟩
theorem ok_Z6:ConOk Try.prog 45 con_Z6 := okG k_Z6 e_Z6 hC_Z6 fun x hx => tf_of (w_Z6_eq x.1 x.2 _) (d_Z6 x.1 x.2 _ (pp_Z6 x.1 x.2 hx) (tt_Z6 x.1 x.2 hx))
def C_Zv:Cons := []
theorem hC_Zv:ConsOk Try.prog C_Zv := ConsOk.nil
def w_Zv (p0:(List (Int×(Int×(Int×(Int×Int)))))) (K:(List (Int×(Int×(Int×(Int×Int)))))→Prop):Prop := (((((List.length ([]:List (Int×(Int×(Int×(Int×Int)))))) + p0.length) * 40)≤140737488355328) ∧(K (([]:List (Int×(Int×(Int×(Int×Int))))) ++ p0)))
theorem w_Zv_eq (p0:(List (Int×(Int×(Int×(Int×Int)))))) (K:(List (Int×(Int×(Int×(Int×Int)))))→Prop):tfn F_Zv A_Zv C_Zv P_Zv R_Zv p0 K = w_Zv p0 K := by kernel_rfl
def s_Zv (p0:(List (Int×(Int×(Int×(Int×Int)))))):(List (Int×(Int×(Int×(Int×Int))))) := (([]:List (Int×(Int×(Int×(Int×Int))))) ++ p0)
abbrev pre_Zv (p0:(List (Int×(Int×(Int×(Int×Int)))))):List Prop := [((((List.length ([]:List (Int×(Int×(Int×(Int×Int)))))) + p0.length) * 40)≤140737488355328)]
theorem d_Zv (p0:(List (Int×(Int×(Int×(Int×Int)))))) (K:(List (Int×(Int×(Int×(Int×Int)))))→Prop) (hp:∀ p∈pre_Zv p0,p) (h:K (s_Zv p0)):w_Zv p0 K := by
 unfold w_Zv
 unfold s_Zv at h
 obtain ⟨hp0,_⟩ := conj_of hp
 exact ⟨(hp0),h⟩
abbrev con_Zv:Con := ⟨P_Zv,R_Zv,fun x => pre_Zv x,fun x => s_Zv x⟩
theorem ok_Zv:ConOk Try.prog 22 con_Zv := okG k_Zv e_Zv hC_Zv fun x hx => tf_of (w_Zv_eq x _) (d_Zv x _ hx rfl)
def C_Zy:Cons := []
theorem hC_Zy:ConsOk Try.prog C_Zy := ConsOk.nil
def w_Zy (p0:(List (Int×(Int×(Int×(Int×Int)))))) (K:(List (Int×(Int×(Int×(Int×Int)))))→Prop):Prop := (((p0.length = 0) →(K ([]:List (Int×(Int×(Int×(Int×Int))))))) ∧(((((List.length ([]:List (Int×(Int×(Int×(Int×Int)))))) + p0.length) * 40)≤140737488355328) ∧(K (([]:List (Int×(Int×(Int×(Int×Int))))) ++ p0))))
theorem w_Zy_eq (p0:(List (Int×(Int×(Int×(Int×Int)))))) (K:(List (Int×(Int×(Int×(Int×Int)))))→Prop):tfnO F_Zy A_Zy C_Zy P_Zy E_Zy p0 K = w_Zy p0 K := by kernel_rfl
def s_Zy (p0:List (Int×Int×Int×Int×Int)):List (Int×Int×Int×Int×Int) := p0
abbrev pre_Zy (p0:List (Int×Int×Int×Int×Int)):List Prop := [p0.length≤1000000]
theorem d_Zy (p0:List (Int×Int×Int×Int×Int)) (K:List (Int×Int×Int×Int×Int)→Prop) (hp:∀ p∈pre_Zy p0,p) (h:K (s_Zy p0)):w_Zy p0 K := by
 have h1 := (conj_of hp).1
 refine ⟨fun e => ?_,by simp only [List.length_nil]; omega,h⟩
 have:p0 = [] := List.eq_nil_of_length_eq_zero e
 subst this; exact h

abbrev con_Zy:Con := ⟨P_Zy,[.one (.sl E_Zy)],fun x => pre_Zy x,fun x => s_Zy x⟩
theorem ok_Zy:ConOOk Try.prog 102 con_Zy := conO_tf (e := E_Zy) (ps := P_Zy) k_Zy e_Zy hC_Zy (fun x hx => tfo_of (w_Zy_eq x (fun z => z = s_Zy x)) (d_Zy x (fun z => z = s_Zy x) hx rfl))
def C_Z8:Cons := [(72,[],con_Zn),(86,[],con_Z5),(66,[],con_Z4),(71,[],con_Z9),(102,ownMark,con_Zy)]
theorem hC_Z8:ConsOk Try.prog C_Z8 := cC ok_Zn <| cC ok_Z5 <| cC ok_Z4 <| cC ok_Z9 <| ConsOk.consO ok_Zy <| ConsOk.nil
abbrev q0_Z8 (p0:(List (Int×(Int×(Int×(Int×Int)))))) (p1:Int) := ((v_cs p0).2 :: ((s_Z4 (s_Z5 p1 zz0 (5:Int)) zz2) :: ((s_Z4 (decide ((p0.length:Int) > p1)) (12:Int)) :: ([]:List Int))))
def w_Z8 (p0:(List (Int×(Int×(Int×(Int×Int)))))) (p1:Int) (K:((List (Int×(Int×(Int×(Int×Int)))))×Int)→Prop):Prop := ((lenOk (q0_Z8 p0 p1)) ∧(((((v_first (q0_Z8 p0 p1)) != zz0)=true) →(K (([]:List (Int×(Int×(Int×(Int×Int))))),(v_first (q0_Z8 p0 p1))))) ∧((((v_first (q0_Z8 p0 p1)) != zz0)=false) →((zz0≤(wi ((p0.length:Int) - p1))) ∧(((wi ((p0.length:Int) - p1))≤(p0.length:Int)) ∧(((List.length (List.take (Int.toNat (wi ((p0.length:Int) - p1))) p0))≤1000000) ∧(∃ n0,(loopP (fun (y1:(Int×(List (Int×(Int×(Int×(Int×Int))))))) k2 => ((((decide (y1.1 < (((List.length (List.take (Int.toNat (wi ((p0.length:Int) - p1))) p0)):Nat):Int)))=true) →((zz0≤(wi (y1.1 + p1))) ∧(((wi (y1.1 + p1)) < (p0.length:Int)) ∧((zz0≤y1.1) ∧((y1.1 < (y1.2.length:Int)) ∧(k2 ((wi (y1.1 + zz1)),(List.set y1.2 y1.1.toNat ((y1.2.getD y1.1.toNat (zz0,(zz0,(zz0,(zz0,zz0))))).1,((y1.2.getD y1.1.toNat (zz0,(zz0,(zz0,(zz0,zz0))))).2.1,((y1.2.getD y1.1.toNat (zz0,(zz0,(zz0,(zz0,zz0))))).2.2.1,((y1.2.getD y1.1.toNat (zz0,(zz0,(zz0,(zz0,zz0))))).2.2.2.1,(p0.getD (Int.toNat (wi (y1.1 + p1))) (zz0,(zz0,(zz0,(zz0,zz0))))).2.2.2.2)))))))))))) ∧(((decide (y1.1 < (((List.length (List.take (Int.toNat (wi ((p0.length:Int) - p1))) p0)):Nat):Int)))=false) →(K (y1.2,zz0))))) n0 (zz0,(List.take (Int.toNat (wi ((p0.length:Int) - p1))) p0))))))))))
theorem w_Z8_eq (p0:(List (Int×(Int×(Int×(Int×Int)))))) (p1:Int) (K:((List (Int×(Int×(Int×(Int×Int)))))×Int)→Prop):tfn F_Z8 A_Z8 C_Z8 P_Z8 R_Z8 (p0,p1) K = w_Z8 p0 p1 K := by kernel_rfl
def st_Z8_0 (p0:(List (Int×(Int×(Int×(Int×Int)))))) (p1:Int) (y1:(Int×(List (Int×(Int×(Int×(Int×Int))))))):(Int×(List (Int×(Int×(Int×(Int×Int)))))) ⊕ ((List (Int×(Int×(Int×(Int×Int)))))×Int) := (cond (decide (y1.1 < (((List.length (List.take (Int.toNat (IntKind.i64.wrap ((p0.length:Int) - p1))) p0)):Nat):Int))) (Sum.inl ((IntKind.i64.wrap (y1.1 + 1)),(List.set y1.2 y1.1.toNat ((y1.2.getD y1.1.toNat ((0:Int),((0:Int),((0:Int),(0,0))))).1,((y1.2.getD y1.1.toNat ((0:Int),((0:Int),((0:Int),(0,0))))).2.1,((y1.2.getD y1.1.toNat ((0:Int),((0:Int),((0:Int),(0,0))))).2.2.1,((y1.2.getD y1.1.toNat ((0:Int),((0:Int),((0:Int),(0,0))))).2.2.2.1,(p0.getD (Int.toNat (IntKind.i64.wrap (y1.1 + p1))) ((0:Int),((0:Int),((0:Int),(0,0))))).2.2.2.2))))))) (Sum.inr (y1.2,(0:Int))))
abbrev sp_Z8_0 (p0:(List (Int×(Int×(Int×(Int×Int)))))) (p1:Int) (y1:(Int×(List (Int×(Int×(Int×(Int×Int))))))):List Prop := [(((decide (y1.1 < (((List.length (List.take (Int.toNat (IntKind.i64.wrap ((p0.length:Int) - p1))) p0)):Nat):Int)))=true)→((0:Int)≤(IntKind.i64.wrap (y1.1 + p1)))),(((decide (y1.1 < (((List.length (List.take (Int.toNat (IntKind.i64.wrap ((p0.length:Int) - p1))) p0)):Nat):Int)))=true)→((IntKind.i64.wrap (y1.1 + p1)) < (p0.length:Int))),(((decide (y1.1 < (((List.length (List.take (Int.toNat (IntKind.i64.wrap ((p0.length:Int) - p1))) p0)):Nat):Int)))=true)→((0:Int)≤y1.1)),(((decide (y1.1 < (((List.length (List.take (Int.toNat (IntKind.i64.wrap ((p0.length:Int) - p1))) p0)):Nat):Int)))=true)→(y1.1 < (y1.2.length:Int)))]
def s_Z8 (p0:(List (Int×(Int×(Int×(Int×Int)))))) (p1:Int):((List (Int×(Int×(Int×(Int×Int)))))×Int) := (cond ((v_first ((v_cs p0).2 :: ((s_Z4 (s_Z5 p1 (0:Int) (5:Int)) (2:Int)) :: ((s_Z4 (decide ((p0.length:Int) > p1)) (12:Int)) :: ([]:List Int))))) != 0) (([]:List (Int×(Int×(Int×(Int×Int))))),(v_first ((v_cs p0).2 :: ((s_Z4 (s_Z5 p1 (0:Int) (5:Int)) (2:Int)) :: ((s_Z4 (decide ((p0.length:Int) > p1)) (12:Int)) :: ([]:List Int)))))) (lpv ([],(0:Int)) (st_Z8_0 p0 p1) ((0:Int),(List.take (Int.toNat (IntKind.i64.wrap ((p0.length:Int) - p1))) p0))))
abbrev pre_Z8 (p0:(List (Int×(Int×(Int×(Int×Int)))))) (p1:Int):List Prop := [((((v_first ((v_cs p0).2 :: ((s_Z4 (s_Z5 p1 (0:Int) (5:Int)) (2:Int)) :: ((s_Z4 (decide ((p0.length:Int) > p1)) (12:Int)) :: ([]:List Int))))) != 0)=false)→((0:Int)≤(IntKind.i64.wrap ((p0.length:Int) - p1)))),((((v_first ((v_cs p0).2 :: ((s_Z4 (s_Z5 p1 (0:Int) (5:Int)) (2:Int)) :: ((s_Z4 (decide ((p0.length:Int) > p1)) (12:Int)) :: ([]:List Int))))) != 0)=false)→((IntKind.i64.wrap ((p0.length:Int) - p1))≤(p0.length:Int))),((((v_first ((v_cs p0).2 :: ((s_Z4 (s_Z5 p1 (0:Int) (5:Int)) (2:Int)) :: ((s_Z4 (decide ((p0.length:Int) > p1)) (12:Int)) :: ([]:List Int))))) != 0)=false)→((List.length (List.take (Int.toNat (IntKind.i64.wrap ((p0.length:Int) - p1))) p0))≤1000000)),((((v_first ((v_cs p0).2 :: ((s_Z4 (s_Z5 p1 (0:Int) (5:Int)) (2:Int)) :: ((s_Z4 (decide ((p0.length:Int) > p1)) (12:Int)) :: ([]:List Int))))) != 0)=false)→(OkL (st_Z8_0 p0 p1) (sp_Z8_0 p0 p1) ((0:Int),(List.take (Int.toNat (IntKind.i64.wrap ((p0.length:Int) - p1))) p0))))]
theorem d_Z8 (p0:(List (Int×(Int×(Int×(Int×Int)))))) (p1:Int) (K:((List (Int×(Int×(Int×(Int×Int)))))×Int)→Prop) (hp:∀ p∈pre_Z8 p0 p1,p) (h:K (s_Z8 p0 p1)):w_Z8 p0 p1 K := by
 unfold w_Z8
 unfold s_Z8 at h
 obtain ⟨hp0,hp1,hp2,hp3,_⟩ := conj_of hp
 exact ⟨(lenOk_of 3 rfl (by decide)),(br' h (fun e0 h => h)
  (fun e0 h => ⟨(hp0 e0),(hp1 e0),(hp2 e0),(loop_gen (hp3 e0) h (fun y1 k1 hp h => by
 unfold st_Z8_0 at h; obtain ⟨hp0,hp1,hp2,hp3,_⟩ := conj_of hp
 exact (br' h (fun e2 h => ⟨(hp0 e2),(hp1 e2),(hp2 e2),(hp3 e2),h⟩)
  (fun e2 h => h))))⟩))⟩
/-- A sample with the reading of one later on; samples without a lag; what is wrong with them. -/
def v_lgk (l:List (Int×Int×Int×Int×Int)) (g k:Nat):Int×Int×Int×Int×Int := ((l.getD k (0,0,0,0,0)).1,(l.getD k (0,0,0,0,0)).2.1,(l.getD k (0,0,0,0,0)).2.2.1,(l.getD k (0,0,0,0,0)).2.2.2.1,(l.getD (k + g) (0,0,0,0,0)).2.2.2.2)
def v_lgd (l:List (Int×Int×Int×Int×Int)) (g:Nat):List (Int×Int×Int×Int×Int) := (List.range' 0 (l.length - g)).map (v_lgk l g)
def v_gerr (l:List (Int×Int×Int×Int×Int)) (g:Int):Int := v_first [(v_cs l).2,cond (s_Z2 g 0 5) 0 2,cond (decide ((l.length:Int) > g)) 0 12]
theorem v_lgd_len (l:List (Int×Int×Int×Int×Int)) (g:Nat):(v_lgd l g).length = l.length - g := by unfold v_lgd; simp
theorem v_lgd_get {l:List (Int×Int×Int×Int×Int)} {g k:Nat} (hk:k < l.length - g):(v_lgd l g).getD k (0,0,0,0,0)=v_lgk l g k := by
 unfold v_lgd
 rw [List.getD_eq_getElem?_getD,List.getElem?_map,List.getElem?_range' hk]; simp
theorem v_gerr_ok {l:List (Int×Int×Int×Int×Int)} {g:Int} (h:v_gerr l g = 0):(v_cs l).2 = 0∧(0≤g∧g≤5)∧g < l.length := by
 unfold v_gerr at h
 rw [tx_first3] at h
 rcases int0 (v_cs l).2 with ⟨z1,e1,_⟩ | ⟨z1,e1,_⟩ <;> rw [e1] at h
 ·cases c:s_Z2 g 0 5 <;> rw [c] at h
  ·cases h
  ·cases c2:decide ((l.length:Int) > g) <;> rw [c2] at h
   ·cases h
   ·exact ⟨z1,tx_within.1 c,of_decide_eq_true c2⟩
 ·exact (z1 h).elim
def v_lgx (l:List (Int×Int×Int×Int×Int)) (g:Int):(List (Int×Int×Int×Int×Int))×Int := cond (v_gerr l g != 0) ([],v_gerr l g) (v_lgd l g.toNat,0)
theorem v_lgx_cases (l:List (Int×Int×Int×Int×Int)) (g:Int):((v_cs l).2 ≠ 0∧v_lgx l g = ([],(v_cs l).2)) ∨ (v_cs l).2 = 0∧((s_Z2 g 0 5 = false∧v_lgx l g = ([],2)) ∨ s_Z2 g 0 5 = true∧(((l.length:Int)≤g∧v_lgx l g = ([],12)) ∨ (¬ (l.length:Int)≤g∧v_lgx l g = (v_lgd l g.toNat,0)))) := by
 unfold v_lgx v_gerr
 rw [tx_first3]
 rcases int0 (v_cs l).2 with ⟨z1,e1,_⟩ | ⟨z1,e1,_⟩ <;> rw [e1]
 ·refine .inr ⟨z1,?_⟩
  cases c:s_Z2 g 0 5
  ·exact .inl ⟨rfl,rfl⟩
  ·refine .inr ⟨rfl,?_⟩
   cases c2:decide ((l.length:Int) > g)
   ·have := of_decide_eq_false c2
    exact .inl ⟨by omega,rfl⟩
   ·have := of_decide_eq_true c2
    exact .inr ⟨by omega,rfl⟩
 ·exact .inl ⟨z1,by simp only [cond_true]; rw [e1]; rfl⟩
theorem l_Z8_0 (p0:List (Int×Int×Int×Int×Int)) (g:Nat) (hl:p0.length≤20) (hg:g≤5) (hg' : g < p0.length):OkL (st_Z8_0 p0 g) (sp_Z8_0 p0 g) (0,p0.take (p0.length - g))∧lpv ([],0) (st_Z8_0 p0 g) (0,p0.take (p0.length - g))=(v_lgd p0 g,0) := by
 have hx:IntKind.i64.wrap ((p0.length:Int) - g)=((p0.length - g:Nat):Int) := by rw [wrap_id (by omega) (by omega)]; omega
 have ht:(p0.take (p0.length - g)).length = p0.length - g := by rw [List.length_take]; omega
 have main := @for_is (List (Int×Int×Int×Int×Int)) (Int×List (Int×Int×Int×Int×Int)) ((List (Int×Int×Int×Int×Int))×Int) ([],0) (st_Z8_0 p0 g) (sp_Z8_0 p0 g) (fun i t => (i,t)) 0 (p0.length - g) (fun j t => t.length = p0.length - g∧(∀ k,k < j→k < p0.length - g→t.getD k (0,0,0,0,0)=v_lgk p0 g k)∧∀ k,j≤k→k < p0.length - g→t.getD k (0,0,0,0,0)=p0.getD k (0,0,0,0,0)) (fun _ _ => (v_lgd p0 g,0)) (Nat.zero_le _) (by omega) ?_ ?_ (p0.take (p0.length - g)) ⟨ht,fun k hk _ => by omega,fun k _ hk => by
  rw [List.getD_eq_getElem?_getD,List.getElem?_take_of_lt hk,List.getD_eq_getElem?_getD]⟩
 ·exact main
 ·rintro t ⟨h1,h2,h3⟩
  have e2:t = v_lgd p0 g := gd_ext (0,0,0,0,0) (by rw [v_lgd_len,h1]) fun k hk => by
   rw [v_lgd_get (by omega),h2 k (by omega) (by omega)]
  simp only [sp_Z8_0,st_Z8_0,fM,hx,Int.toNat_natCast,ht,decide_eq_false (Int.lt_irrefl ((p0.length - g:Nat):Int)),cond_false]
  refine ⟨?_,by rw [e2]⟩
  and_intros
  all_goals first
   | (intro h; cases h; done)
   | (intro p hp; cases hp)
 ·rintro j t h0 hj ⟨h1,h2,h3⟩
  have hw1:IntKind.i64.wrap ((j:Int) + 1)=((j + 1:Nat):Int) := wrap_id (by omega) (by omega)
  have hw2:IntKind.i64.wrap ((j:Int) + g)=((j + g:Nat):Int) := wrap_id (by omega) (by omega)
  have hd:decide ((j:Int) < ((p0.length - g:Nat):Int))=true := decide_eq_true (by omega)
  simp only [sp_Z8_0,st_Z8_0,fM,hx,Int.toNat_natCast,ht,hd,cond_true,hw1,hw2,h3 j (Nat.le_refl _) hj]
  refine ⟨?_,.inl ⟨t.set j (v_lgk p0 g j),rfl,⟨by rw [List.length_set]; exact h1,fun k hk hk2 => ?_,fun k hk hk2 => ?_⟩,trivial⟩⟩
  ·and_intros
   all_goals first
    | (intro p hp; cases hp; done)
    | (intros; omega)
  ·rw [gd_set (by omega)]
   split
   ·rename_i e; subst e; rfl
   ·exact h2 k (by omega) hk2
  ·rw [gd_set (by omega),if_neg (by omega)]; exact h3 k (by omega) hk2
abbrev t_Z8 (p0:List (Int×Int×Int×Int×Int)) (p1:Int):(List (Int×Int×Int×Int×Int))×Int := v_lgx p0 p1
abbrev qre_Z8 (_p0:List (Int×Int×Int×Int×Int)) (_p1:Int):List Prop := []
theorem pp_Z8 (p0:List (Int×Int×Int×Int×Int)) (p1:Int) (hq:∀ p∈qre_Z8 p0 p1,p):∀ p∈pre_Z8 p0 p1,p := by
 simp only [pre_Z8,fM]
 simp only [tx_unless,tx_withinG,show ∀ (x:List (Int×Int×Int×Int×Int)) (y:Int),v_first [(v_cs x).2,cond (s_Z2 y 0 5) 0 2,cond (decide ((x.length:Int) > y)) 0 12]=v_gerr x y from fun _ _ => rfl]
 rcases int0 (v_gerr p0 p1) with ⟨z,e,_⟩ | ⟨z,e,_⟩ <;> rw [e]
 ·obtain ⟨s1,s2,s3⟩ := v_gerr_ok z
  obtain ⟨g,rfl⟩ : ∃ g:Nat,p1 = g := ⟨p1.toNat,by omega⟩
  have hl := (v_cs_iff.1 s1).len
  have hx:IntKind.i64.wrap ((p0.length:Int) - g)=((p0.length - g:Nat):Int) := by rw [wrap_id (by omega) (by omega)]; omega
  rw [hx,Int.toNat_natCast]
  have := (l_Z8_0 p0 g hl (by omega) (by omega)).1
  and_intros
  all_goals first
   | (intro p hp; cases hp; done)
   | (intros; first | exact this | (rw [List.length_take]; omega) | omega)
 ·and_intros
  all_goals first
   | (intro h; cases h; done)
   | (intro p hp; cases hp)
theorem tt_Z8 (p0:List (Int×Int×Int×Int×Int)) (p1:Int) (hq:∀ p∈qre_Z8 p0 p1,p):s_Z8 p0 p1 = t_Z8 p0 p1 := by
 unfold s_Z8 t_Z8 v_lgx
 simp only [tx_unless,tx_withinG,show ∀ (x:List (Int×Int×Int×Int×Int)) (y:Int),v_first [(v_cs x).2,cond (s_Z2 y 0 5) 0 2,cond (decide ((x.length:Int) > y)) 0 12]=v_gerr x y from fun _ _ => rfl]
 rcases int0 (v_gerr p0 p1) with ⟨z,e,_⟩ | ⟨z,e,_⟩ <;> rw [e]
 ·obtain ⟨s1,s2,s3⟩ := v_gerr_ok z
  obtain ⟨g,rfl⟩ : ∃ g:Nat,p1 = g := ⟨p1.toNat,by omega⟩
  have hl := (v_cs_iff.1 s1).len
  have hx:IntKind.i64.wrap ((p0.length:Int) - g)=((p0.length - g:Nat):Int) := by rw [wrap_id (by omega) (by omega)]; omega
  rw [hx,Int.toNat_natCast]
  exact (l_Z8_0 p0 g hl (by omega) (by omega)).2
 ·rfl

abbrev con_Z8:Con := ⟨P_Z8,R_Z8,fun x => qre_Z8 x.1 x.2,fun x => t_Z8 x.1 x.2⟩
theorem ok_Z8:ConOk Try.prog 47 con_Z8 := okG k_Z8 e_Z8 hC_Z8 fun x hx => tf_of (w_Z8_eq x.1 x.2 _) (d_Z8 x.1 x.2 _ (pp_Z8 x.1 x.2 hx) (tt_Z8 x.1 x.2 hx))
def C_Zc:Cons := [(90,[],con_Zq)]
theorem hC_Zc:ConsOk Try.prog C_Zc := cC ok_Zq <| ConsOk.nil
def w_Zc (p0:gF) (K:Int→Prop):Prop := (((((p0.length:Int) == 0)=true) →(K (10:Int))) ∧((((p0.length:Int) == 0)=false) →((((decide ((p0.length:Int) > 40))=true) →(K (8:Int))) ∧(((decide ((p0.length:Int) > 40))=false) →(∃ n0,(loopP (fun (y1:Int) k2 => ((((decide (y1 < (p0.length:Int)))=true) →((zz0≤y1) ∧((y1 < (p0.length:Int)) ∧((((!(s_Z2 (p0.getD y1.toNat zz0) (-100000:Int) (100000:Int)))=true) →(K (2:Int))) ∧(((!(s_Z2 (p0.getD y1.toNat zz0) (-100000:Int) (100000:Int)))=false) →(k2 (IntKind.i64.wrap (y1 + 1)))))))) ∧(((decide (y1 < (p0.length:Int)))=false) →(K zz0)))) n0 zz0))))))
theorem w_Zc_eq (p0:gF) (K:Int→Prop):tfn F_Zc A_Zc C_Zc P_Zc R_Zc p0 K = w_Zc p0 K := by kernel_rfl
def st_Zc_0 (p0:gF) (y2:Int):Int ⊕ Int := (cond (decide (y2 < (p0.length:Int))) (cond (!(s_Z2 (p0.getD y2.toNat (0:Int)) (-100000:Int) (100000:Int))) (Sum.inr (2:Int)) (Sum.inl (IntKind.i64.wrap (y2 + 1)))) (Sum.inr (0:Int)))
abbrev sp_Zc_0 (p0:gF) (y2:Int):List Prop := [(((decide (y2 < (p0.length:Int)))=true)→((0:Int)≤y2)),(((decide (y2 < (p0.length:Int)))=true)→(y2 < (p0.length:Int)))]
def s_Zc (p0:gF):Int := (cond ((p0.length:Int) == 0) (10:Int) (cond (decide ((p0.length:Int) > 40)) (8:Int) (lpv (0:Int) (st_Zc_0 p0) (0:Int))))
abbrev pre_Zc (p0:gF):List Prop := [((((p0.length:Int) == 0)=false)→(((decide ((p0.length:Int) > 40))=false)→(OkL (st_Zc_0 p0) (sp_Zc_0 p0) (0:Int))))]
theorem d_Zc (p0:gF) (K:Int→Prop) (hp:∀ p∈pre_Zc p0,p) (h:K (s_Zc p0)):w_Zc p0 K := by
 unfold w_Zc
 unfold s_Zc at h
 obtain ⟨hp0,_⟩ := conj_of hp
 exact (br' h (fun e0 h => h)
  (fun e0 h => (br' h (fun e1 h => h)
  (fun e1 h => (loop_gen (hp0 e0 e1) h (fun y2 k2 hp h => by
 unfold st_Zc_0 at h; obtain ⟨hp0,hp1,_⟩ := conj_of hp
 exact (br' h (fun e3 h => ⟨(hp0 e3),(hp1 e3),(br' h (fun e4 h => h)
  (fun e4 h => h))⟩)
  (fun e3 h => h))))))))
theorem l_Zc_0 (p0:gF) (hl:lenOk p0):OkL (st_Zc_0 p0) (sp_Zc_0 p0) 0∧lpv (0:Int) (st_Zc_0 p0) 0 = v_scan (fun _ x => cond (!(v_val x)) (some 2) none) 0 0 p0 := by
 refine scan_is p0 0 (fun _ x => cond (!(v_val x)) (some 2) none) 0 hl ?_ ?_
 ·refine ⟨by simp only [sp_Zc_0,fM,decide_eq_true_eq]; simp,by simp [st_Zc_0]⟩
 ·intro j hj
  have hj' : (j:Int) < p0.length := by omega
  refine ⟨by simp only [sp_Zc_0,fM,decide_eq_true_eq,Int.toNat_natCast]; simp <;> omega,?_⟩
  simp only [st_Zc_0,hj',decide_true,Int.toNat_natCast,cond_true,wrap_nat (show (j:Int)≤9223372036854775806 by unfold lenOk at hl; omega)]
  have e:s_Z2 (p0.getD j 0) (-100000) 100000 = v_val (p0.getD j 0) := rfl
  rw [e]
  cases v_val (p0.getD j 0) <;> rfl
abbrev t_Zc (p0:gF):Int := v_serr p0
abbrev qre_Zc (_p0:gF):List Prop := []
theorem pp_Zc (p0:gF) (_hq:∀ p∈qre_Zc p0,p):∀ p∈pre_Zc p0,p := by
 simp only [pre_Zc,fM]
 exact ⟨fun _ h => (l_Zc_0 p0 (lenOk_le (n := 40) (by have := of_decide_eq_false h; omega) (by decide))).1,by simp⟩
theorem tt_Zc (p0:gF) (_hq:∀ p∈qre_Zc p0,p):s_Zc p0 = t_Zc p0 := by
 unfold s_Zc t_Zc v_serr
 cases h:decide ((p0.length:Int) > 40)
 ·rw [(l_Zc_0 p0 (lenOk_le (n := 40) (by have := of_decide_eq_false h; omega) (by decide))).2,v_scan_any,show p0.any (fun x => !(v_val x)) = !(p0.all v_val) by rw [List.not_all_eq_any_not]]
  cases p0.all v_val <;> rfl
 ·rfl

abbrev con_Zc:Con := ⟨P_Zc,R_Zc,fun x => qre_Zc x,fun x => t_Zc x⟩
theorem ok_Zc:ConOk Try.prog 48 con_Zc := okG k_Zc e_Zc hC_Zc fun x hx => tf_of (w_Zc_eq x _) (d_Zc x _ (pp_Zc x hx) (tt_Zc x hx))
def C_Zr:Cons := []
theorem hC_Zr:ConsOk Try.prog C_Zr := ConsOk.nil
def w_Zr (p0:Int) (K:Int→Prop):Prop := (K (max p0 (IntKind.i64.wrap (zz0 - p0))))
theorem w_Zr_eq (p0:Int) (K:Int→Prop):tfn F_Zr A_Zr C_Zr P_Zr R_Zr p0 K = w_Zr p0 K := by kernel_rfl
def s_Zr (p0:Int):Int := (max p0 (IntKind.i64.wrap ((0:Int) - p0)))
abbrev pre_Zr (_p0:Int):List Prop := []
theorem d_Zr (p0:Int) (K:Int→Prop) (_hp:∀ p∈pre_Zr p0,p) (h:K (s_Zr p0)):w_Zr p0 K := by
 unfold w_Zr
 unfold s_Zr at h
 exact h
abbrev con_Zr:Con := ⟨P_Zr,R_Zr,fun x => pre_Zr x,fun x => s_Zr x⟩
theorem ok_Zr:ConOk Try.prog 95 con_Zr := okG k_Zr e_Zr hC_Zr fun x hx => tf_of (w_Zr_eq x _) (d_Zr x _ hx rfl)
def C_Ze:Cons := [(95,[],con_Zr)]
theorem hC_Ze:ConsOk Try.prog C_Ze := cC ok_Zr <| ConsOk.nil
def w_Ze (p0:gF) (p1:gF) (p2:Int) (K:(Int×Int)→Prop):Prop := (∃ n0,(loopP (fun (y1:(Int×(Int×Int))) k2 => ((((decide (y1.1≤(IntKind.i64.wrap ((IntKind.i64.wrap ((p0.length:Int) - 1)) - p2))))=true) →((zz0≤(IntKind.i64.wrap (y1.1 + p2))) ∧(((IntKind.i64.wrap (y1.1 + p2)) < (p0.length:Int)) ∧((zz0≤(IntKind.i64.wrap (y1.1 - p2))) ∧(((IntKind.i64.wrap (y1.1 - p2)) < (p1.length:Int)) ∧(k2 ((IntKind.i64.wrap (y1.1 + 1)),((IntKind.i64.wrap (y1.2.1 + 1)),(IntKind.i64.wrap (y1.2.2 + (s_Zr (IntKind.i64.wrap ((p0.getD (Int.toNat (IntKind.i64.wrap (y1.1 + p2))) zz0) - (p1.getD (Int.toNat (IntKind.i64.wrap (y1.1 - p2))) zz0)))))))))))))) ∧(((decide (y1.1≤(IntKind.i64.wrap ((IntKind.i64.wrap ((p0.length:Int) - 1)) - p2))))=false) →(K (y1.2.2,y1.2.1))))) n0 (p2,(zz0,zz0))))
theorem w_Ze_eq (p0:gF) (p1:gF) (p2:Int) (K:(Int×Int)→Prop):tfn F_Ze A_Ze C_Ze P_Ze R_Ze (p0,p1,p2) K = w_Ze p0 p1 p2 K := by kernel_rfl
def st_Ze_0 (p0:gF) (p1:gF) (p2:Int) (y0:(Int×(Int×Int))):(Int×(Int×Int)) ⊕ (Int×Int) := (cond (decide (y0.1≤(IntKind.i64.wrap ((IntKind.i64.wrap ((p0.length:Int) - 1)) - p2)))) (Sum.inl ((IntKind.i64.wrap (y0.1 + 1)),((IntKind.i64.wrap (y0.2.1 + 1)),(IntKind.i64.wrap (y0.2.2 + (s_Zr (IntKind.i64.wrap ((p0.getD (Int.toNat (IntKind.i64.wrap (y0.1 + p2))) (0:Int)) - (p1.getD (Int.toNat (IntKind.i64.wrap (y0.1 - p2))) (0:Int)))))))))) (Sum.inr (y0.2.2,y0.2.1)))
abbrev sp_Ze_0 (p0:gF) (p1:gF) (p2:Int) (y0:(Int×(Int×Int))):List Prop := [(((decide (y0.1≤(IntKind.i64.wrap ((IntKind.i64.wrap ((p0.length:Int) - 1)) - p2))))=true)→((0:Int)≤(IntKind.i64.wrap (y0.1 + p2)))),(((decide (y0.1≤(IntKind.i64.wrap ((IntKind.i64.wrap ((p0.length:Int) - 1)) - p2))))=true)→((IntKind.i64.wrap (y0.1 + p2)) < (p0.length:Int))),(((decide (y0.1≤(IntKind.i64.wrap ((IntKind.i64.wrap ((p0.length:Int) - 1)) - p2))))=true)→((0:Int)≤(IntKind.i64.wrap (y0.1 - p2)))),(((decide (y0.1≤(IntKind.i64.wrap ((IntKind.i64.wrap ((p0.length:Int) - 1)) - p2))))=true)→((IntKind.i64.wrap (y0.1 - p2)) < (p1.length:Int)))]
def s_Ze (p0:gF) (p1:gF) (p2:Int):(Int×Int) := (lpv (0,0) (st_Ze_0 p0 p1 p2) (p2,(0,0)))
abbrev pre_Ze (p0:gF) (p1:gF) (p2:Int):List Prop := [(OkL (st_Ze_0 p0 p1 p2) (sp_Ze_0 p0 p1 p2) (p2,(0,0)))]
theorem d_Ze (p0:gF) (p1:gF) (p2:Int) (K:(Int×Int)→Prop) (hp:∀ p∈pre_Ze p0 p1 p2,p) (h:K (s_Ze p0 p1 p2)):w_Ze p0 p1 p2 K := by
 unfold w_Ze
 unfold s_Ze at h
 obtain ⟨hp0,_⟩ := conj_of hp
 exact (loop_gen (hp0) h (fun y0 k0 hp h => by
 unfold st_Ze_0 at h; obtain ⟨hp0,hp1,hp2,hp3,_⟩ := conj_of hp
 exact (br' h (fun e1 h => ⟨(hp0 e1),(hp1 e1),(hp2 e1),(hp3 e1),h⟩)
  (fun e1 h => h))))
theorem l_Ze_0 (p0 p1:gF) (g:Nat) (h1:v_ser p0) (h2:v_ser p1) (he:p0.length = p1.length) (hg:g≤5):OkL (st_Ze_0 p0 p1 g) (sp_Ze_0 p0 p1 g) ((g:Int),0,0)∧lpv (0,0) (st_Ze_0 p0 p1 g) ((g:Int),0,0)=v_mis p0 p1 g := by
 have hl := h1.len
 have hne := h1.ne
 have hx:IntKind.i64.wrap (IntKind.i64.wrap ((p0.length:Int) - 1) - g)=(p0.length:Int) - 1 - g := by rw [show IntKind.i64.wrap ((p0.length:Int) - 1)=(p0.length:Int) - 1 from wrap_id (by omega) (by omega)]; exact wrap_id (by omega) (by omega)
 have main := @for_is (Int×Int) (Int×Int×Int) (Int×Int) (0,0) (st_Ze_0 p0 p1 g) (sp_Ze_0 p0 p1 g) (fun i t => (i,t)) g (max g (p0.length - g)) (fun j t => t = (((j - g:Nat):Int),v_ms p0 p1 g (j - g))) (fun _ _ => v_mis p0 p1 g) (by omega) (by omega) ?_ ?_ (0,0) (by rw [Nat.sub_self]; rfl)
 ·exact main
 ·rintro t h1
  have hd:decide (((max g (p0.length - g):Nat):Int)≤(p0.length:Int) - 1 - g)=false := decide_eq_false (by omega)
  have e1:max g (p0.length - g) - g = p0.length - 2 * g := by omega
  rw [e1] at h1
  simp only [sp_Ze_0,st_Ze_0,fM,hx,hd,cond_false,h1]
  refine ⟨?_,rfl⟩
  and_intros
  all_goals first
   | (intro h; cases h; done)
   | (intro p hp; cases hp)
 ·rintro j t h0 hj h3
  have hw1:IntKind.i64.wrap ((j:Int) + 1)=((j + 1:Nat):Int) := wrap_id (by omega) (by omega)
  have hw2:IntKind.i64.wrap ((j:Int) + g)=((j + g:Nat):Int) := wrap_id (by omega) (by omega)
  have hw3:IntKind.i64.wrap ((j:Int) - g)=((j - g:Nat):Int) := by rw [wrap_id (by omega) (by omega)]; omega
  have hw4:IntKind.i64.wrap (((j - g:Nat):Int) + 1)=((j + 1 - g:Nat):Int) := by rw [wrap_id (by omega) (by omega)]; omega
  have hd:decide ((j:Int)≤(p0.length:Int) - 1 - g)=true := decide_eq_true (by omega)
  have ga := v_ser_get h1 (show j + g < p0.length by omega)
  have gb := v_ser_get h2 (show j - g < p1.length by omega)
  have hm := v_ms_le h1 h2 he (g := g) (j - g) (by omega)
  have hs:v_ms p0 p1 g (j + 1 - g)=v_ms p0 p1 g (j - g) + max (p0.getD (j + g) 0 - p1.getD (j - g) 0) (0 - (p0.getD (j + g) 0 - p1.getD (j - g) 0)) := by
   rw [show j + 1 - g = (j - g) + 1 by omega,show j + g = (j - g) + 2 * g by omega]; rfl
  simp only [sp_Ze_0,st_Ze_0,fM,hx,hd,cond_true,h3,hw1,hw2,hw3,hw4,Int.toNat_natCast,s_Zr]
  generalize p0.getD (j + g) 0 = a at *
  generalize p1.getD (j - g) 0 = b at *
  have w1:IntKind.i64.wrap (a - b)=a - b := wrap_id (by omega) (by omega)
  have w2:IntKind.i64.wrap (0 - (a - b))=0 - (a - b) := wrap_id (by omega) (by omega)
  have w3:IntKind.i64.wrap (v_ms p0 p1 g (j - g) + max (a - b) (0 - (a - b)))=v_ms p0 p1 g (j - g) + max (a - b) (0 - (a - b)) := wrap_id (by omega) (by omega)
  simp only [w1,w2,w3]
  refine ⟨?_,.inl ⟨(((j + 1 - g:Nat):Int),v_ms p0 p1 g (j + 1 - g)),by rw [hs],rfl,trivial⟩⟩
  and_intros
  all_goals first
   | (intro p hp; cases hp; done)
   | (intros; omega)
abbrev t_Ze (p0:gF) (p1:gF) (p2:Int):Int×Int := v_mis p0 p1 p2.toNat
abbrev qre_Ze (p0:gF) (p1:gF) (p2:Int):List Prop := [v_ser p0,v_ser p1,p0.length = p1.length,0≤p2∧p2≤5]
theorem pp_Ze (p0:gF) (p1:gF) (p2:Int) (hq:∀ p∈qre_Ze p0 p1 p2,p):∀ p∈pre_Ze p0 p1 p2,p := by
 obtain ⟨h1,h2,h3,h4,_⟩ := conj_of hq
 obtain ⟨g,rfl⟩ : ∃ g:Nat,p2 = g := ⟨p2.toNat,by omega⟩
 simp only [pre_Ze,fM]
 exact ⟨(l_Ze_0 p0 p1 g h1 h2 h3 (by omega)).1,by simp⟩
theorem tt_Ze (p0:gF) (p1:gF) (p2:Int) (hq:∀ p∈qre_Ze p0 p1 p2,p):s_Ze p0 p1 p2 = t_Ze p0 p1 p2 := by
 obtain ⟨h1,h2,h3,h4,_⟩ := conj_of hq
 obtain ⟨g,rfl⟩ : ∃ g:Nat,p2 = g := ⟨p2.toNat,by omega⟩
 exact (l_Ze_0 p0 p1 g h1 h2 h3 (by omega)).2

abbrev con_Ze:Con := ⟨P_Ze,R_Ze,fun x => qre_Ze x.1 x.2.1 x.2.2,fun x => t_Ze x.1 x.2.1 x.2.2⟩
theorem ok_Ze:ConOk Try.prog 52 con_Ze := okG k_Ze e_Ze hC_Ze fun x hx => tf_of (w_Ze_eq x.1 x.2.1 x.2.2 _) (d_Ze x.1 x.2.1 x.2.2 _ (pp_Ze x.1 x.2.1 x.2.2 hx) (tt_Ze x.1 x.2.1 x.2.2 hx))
def C_Zg:Cons := [(30,[],con_Zi)]
theorem hC_Zg:ConsOk Try.prog C_Zg := cC ok_Zi <| ConsOk.nil
def w_Zg (p0:Int) (p1:Int) (p2:Int) (p3:Int) (K:Int→Prop):Prop := (∃ n0,(loopP (fun (y1:(Int×(Int×(Int×Int)))) k2 => ((v_fit y1.2.2.2) ∧((zz0 < y1.1) ∧((v_fit y1.2.2.1) ∧((zz0 < y1.2.1) ∧((((decide ((y1.2.2.2 / y1.1) < (y1.2.2.1 / y1.2.1)))=true) →(K (-1:Int))) ∧(((decide ((y1.2.2.2 / y1.1) < (y1.2.2.1 / y1.2.1)))=false) →((((decide ((y1.2.2.2 / y1.1) > (y1.2.2.1 / y1.2.1)))=true) →(K zz1)) ∧(((decide ((y1.2.2.2 / y1.1) > (y1.2.2.1 / y1.2.1)))=false) →(((((IntKind.i64.wrap (y1.2.2.2 - (IntKind.i64.wrap ((y1.2.2.2 / y1.1) * y1.1)))) == 0)=true) →(((IntKind.i64.wrap (y1.2.2.2 - (IntKind.i64.wrap ((y1.2.2.2 / y1.1) * y1.1)))) == 0)=((IntKind.i64.wrap (y1.2.2.2 - (IntKind.i64.wrap ((y1.2.2.2 / y1.1) * y1.1)))) == 0))) ∧((((IntKind.i64.wrap (y1.2.2.2 - (IntKind.i64.wrap ((y1.2.2.2 / y1.1) * y1.1)))) == 0)=((IntKind.i64.wrap (y1.2.2.2 - (IntKind.i64.wrap ((y1.2.2.2 / y1.1) * y1.1)))) == 0)) ∧((((cond ((IntKind.i64.wrap (y1.2.2.2 - (IntKind.i64.wrap ((y1.2.2.2 / y1.1) * y1.1)))) == 0) ((IntKind.i64.wrap (y1.2.2.1 - (IntKind.i64.wrap ((y1.2.2.1 / y1.2.1) * y1.2.1)))) == 0) false)=true) →(K zz0)) ∧(((cond ((IntKind.i64.wrap (y1.2.2.2 - (IntKind.i64.wrap ((y1.2.2.2 / y1.1) * y1.1)))) == 0) ((IntKind.i64.wrap (y1.2.2.1 - (IntKind.i64.wrap ((y1.2.2.1 / y1.2.1) * y1.2.1)))) == 0) false)=false) →(((((IntKind.i64.wrap (y1.2.2.2 - (IntKind.i64.wrap ((y1.2.2.2 / y1.1) * y1.1)))) == 0)=true) →(K (-1:Int))) ∧((((IntKind.i64.wrap (y1.2.2.2 - (IntKind.i64.wrap ((y1.2.2.2 / y1.1) * y1.1)))) == 0)=false) →(((((IntKind.i64.wrap (y1.2.2.1 - (IntKind.i64.wrap ((y1.2.2.1 / y1.2.1) * y1.2.1)))) == 0)=true) →(K zz1)) ∧((((IntKind.i64.wrap (y1.2.2.1 - (IntKind.i64.wrap ((y1.2.2.1 / y1.2.1) * y1.2.1)))) == 0)=false) →(k2 ((IntKind.i64.wrap (y1.2.2.1 - (IntKind.i64.wrap ((y1.2.2.1 / y1.2.1) * y1.2.1)))),((IntKind.i64.wrap (y1.2.2.2 - (IntKind.i64.wrap ((y1.2.2.2 / y1.1) * y1.1)))),(y1.1,y1.2.1))))))))))))))))))))) n0 (p1,(p3,(p2,p0)))))
theorem w_Zg_eq (p0:Int) (p1:Int) (p2:Int) (p3:Int) (K:Int→Prop):tfn F_Zg A_Zg C_Zg P_Zg R_Zg (p0,p1,p2,p3) K = w_Zg p0 p1 p2 p3 K := by kernel_rfl
def st_Zg_0 (_p0:Int) (_p1:Int) (_p2:Int) (_p3:Int) (y0:(Int×(Int×(Int×Int)))):(Int×(Int×(Int×Int))) ⊕ Int := (cond (decide ((y0.2.2.2 / y0.1) < (y0.2.2.1 / y0.2.1))) (Sum.inr (-1:Int)) (cond (decide ((y0.2.2.2 / y0.1) > (y0.2.2.1 / y0.2.1))) (Sum.inr (1:Int)) (cond (cond ((IntKind.i64.wrap (y0.2.2.2 - (IntKind.i64.wrap ((y0.2.2.2 / y0.1) * y0.1)))) == 0) ((IntKind.i64.wrap (y0.2.2.1 - (IntKind.i64.wrap ((y0.2.2.1 / y0.2.1) * y0.2.1)))) == 0) false) (Sum.inr (0:Int)) (cond ((IntKind.i64.wrap (y0.2.2.2 - (IntKind.i64.wrap ((y0.2.2.2 / y0.1) * y0.1)))) == 0) (Sum.inr (-1:Int)) (cond ((IntKind.i64.wrap (y0.2.2.1 - (IntKind.i64.wrap ((y0.2.2.1 / y0.2.1) * y0.2.1)))) == 0) (Sum.inr (1:Int)) (Sum.inl ((IntKind.i64.wrap (y0.2.2.1 - (IntKind.i64.wrap ((y0.2.2.1 / y0.2.1) * y0.2.1)))),((IntKind.i64.wrap (y0.2.2.2 - (IntKind.i64.wrap ((y0.2.2.2 / y0.1) * y0.1)))),(y0.1,y0.2.1)))))))))
abbrev sp_Zg_0 (_p0:Int) (_p1:Int) (_p2:Int) (_p3:Int) (y0:(Int×(Int×(Int×Int)))):List Prop := [(v_fit y0.2.2.2),((0:Int) < y0.1),(v_fit y0.2.2.1),((0:Int) < y0.2.1)]
def s_Zg (p0:Int) (p1:Int) (p2:Int) (p3:Int):Int := (lpv (0:Int) (st_Zg_0 p0 p1 p2 p3) (p1,(p3,(p2,p0))))
abbrev pre_Zg (p0:Int) (p1:Int) (p2:Int) (p3:Int):List Prop := [(OkL (st_Zg_0 p0 p1 p2 p3) (sp_Zg_0 p0 p1 p2 p3) (p1,(p3,(p2,p0))))]
theorem d_Zg (p0:Int) (p1:Int) (p2:Int) (p3:Int) (K:Int→Prop) (hp:∀ p∈pre_Zg p0 p1 p2 p3,p) (h:K (s_Zg p0 p1 p2 p3)):w_Zg p0 p1 p2 p3 K := by
 unfold w_Zg
 unfold s_Zg at h
 obtain ⟨hp0,_⟩ := conj_of hp
 exact (loop_gen (hp0) h (fun y0 k0 hp h => by
 unfold st_Zg_0 at h; obtain ⟨hp0,hp1,hp2,hp3,_⟩ := conj_of hp
 exact ⟨(hp0),(hp1),(hp2),(hp3),(br' h (fun e1 h => h)
  (fun e1 h => (br' h (fun e2 h => h)
  (fun e2 h => ⟨rf,rfl,(br' h (fun e3 h => h)
  (fun e3 h => (br' h (fun e4 h => h)
  (fun e4 h => (br' h (fun e5 h => h)
  (fun e5 h => h))))))⟩))))⟩))
/-- How two numbers compare. -/
def v_cmp (a b:Int):Int := cond (decide (a < b)) (-1) (cond (decide (a > b)) 1 0)
theorem v_cmp_lt {a b:Int}:v_cmp a b < 0 ↔ a < b := by
 unfold v_cmp
 rcases Int.lt_trichotomy a b with h | h | h
 ·simp [h]
 ·subst h; simp
 ·rw [decide_eq_false (show ¬ a < b by omega),decide_eq_true (show a > b from h)]; simp; omega
theorem l_Zg_0 (p0 p1 p2 p3:Int) (h0:v_fit p0) (h1:0 < p1) (h1' : v_fit p1) (h2:v_fit p2) (h3:0 < p3) (h3' : v_fit p3):OkL (st_Zg_0 p0 p1 p2 p3) (sp_Zg_0 p0 p1 p2 p3) (p1,p3,p2,p0)∧lpv 0 (st_Zg_0 p0 p1 p2 p3) (p1,p3,p2,p0)=v_cmp (p0 * p3) (p2 * p1) := by
 refine loop_is (fun (y:Int×Int×Int×Int) => (0 < y.1∧v_fit y.1)∧(0 < y.2.1∧v_fit y.2.1)∧v_fit y.2.2.1∧v_fit y.2.2.2) (fun (y:Int×Int×Int×Int) => y.1.toNat + y.2.1.toNat) (fun (y:Int×Int×Int×Int) => v_cmp (y.2.2.2 * y.2.1) (y.2.2.1 * y.1)) ?_ ⟨⟨h1,h1'⟩,⟨h3,h3'⟩,h2,h0⟩ (by unfold fuel; simp only; unfold v_fit at h1' h3'; omega)
 rintro ⟨d,e,c,a⟩ ⟨⟨g1,g1'⟩,⟨g2,g2'⟩,g3,g4⟩
 simp only at g1 g1' g2 g2' g3 g4 ⊢
 have e1 := Int.mul_ediv_add_emod a d
 have e2 := Int.mul_ediv_add_emod c e
 have r1 := Int.emod_nonneg a (show d ≠ 0 by omega)
 have r1' := Int.emod_lt_of_pos a g1
 have r2 := Int.emod_nonneg c (show e ≠ 0 by omega)
 have r2' := Int.emod_lt_of_pos c g2
 refine ⟨by simp only [sp_Zg_0,fM]; exact ⟨g4,g1,g3,g2,by simp⟩,?_⟩
 unfold st_Zg_0
 simp only [w_sub_r]
 have i1:IntKind.i64.wrap (a - a / d * d)=a % d := by
  have:a - a / d * d = a % d := by rw [Int.mul_comm]; omega
  rw [this]; unfold v_fit at g1'; exact wrap_id (by omega) (by omega)
 have i2:IntKind.i64.wrap (c - c / e * e)=c % e := by
  have:c - c / e * e = c % e := by rw [Int.mul_comm]; omega
  rw [this]; unfold v_fit at g2'; exact wrap_id (by omega) (by omega)
 rw [i1,i2]
 generalize hq:a / d = q at *
 generalize hq' : c / e = q' at *
 generalize a % d = r at *
 generalize c % e = r' at *
 have ea:a * e = q * (d * e) + r * e := by rw [← e1]; grind
 have ec:c * d = q' * (d * e) + r' * d := by rw [← e2]; grind
 have pe:0 < d * e := Int.mul_pos g1 g2
 have b1:0≤r * e := Int.mul_nonneg r1 (by omega)
 have b1' : r * e < d * e := Int.mul_lt_mul_of_pos_right r1' g2
 have b2:0≤r' * d := Int.mul_nonneg r2 (by omega)
 have b2' : r' * d < d * e := by rw [Int.mul_comm d e]; exact Int.mul_lt_mul_of_pos_right r2' g1
 have up:∀ {m n:Int},m < n→m * (d * e) + d * e≤n * (d * e) := by
  intro m n h
  have := Int.mul_le_mul_of_nonneg_right (show m + 1≤n by omega) (show 0≤d * e by omega)
  rw [Int.add_mul,Int.one_mul] at this; exact this
 rcases Int.lt_trichotomy q q' with h | h | h
 ·rw [decide_eq_true h]
  have := up h
  simp only [cond_true]
  unfold v_cmp
  rw [decide_eq_true (show a * e < c * d by omega)]; rfl
 ·subst h
  rw [decide_eq_false (show ¬ q < q by omega)]
  simp only [cond_false]
  have hc:v_cmp (a * e) (c * d)=v_cmp (r * e) (r' * d) := by
   unfold v_cmp
   rw [ea,ec]
   congr 1
   ·exact decide_eq_decide.2 (by omega)
   ·congr 1
    exact decide_eq_decide.2 (by omega)
  rcases int0 r with ⟨z1,_,z1'⟩ | ⟨z1,_,z1'⟩ <;> rcases int0 r' with ⟨z2,_,z2'⟩ | ⟨z2,_,z2'⟩ <;> rw [z1',z2']
  ·simp only [cond_true]
   rw [hc,z1,z2,Int.zero_mul,Int.zero_mul]; rfl
  ·simp only [cond_true,cond_false]
   have:0 < r' * d := Int.mul_pos (by omega) g1
   rw [hc,z1,Int.zero_mul]
   unfold v_cmp
   rw [decide_eq_true this]; rfl
  ·simp only [cond_true,cond_false]
   have:0 < r * e := Int.mul_pos (by omega) g2
   rw [hc,z2,Int.zero_mul]
   unfold v_cmp
   rw [decide_eq_false (show ¬ r * e < 0 by omega),decide_eq_true this]; rfl
  ·simp only [cond_false]
   unfold v_fit at *
   refine ⟨⟨⟨by omega,by omega⟩,⟨by omega,by omega⟩,g1',g2'⟩,by omega,?_⟩
   rw [hc,Int.mul_comm e r,Int.mul_comm d r']
 ·rw [decide_eq_false (show ¬ q < q' by omega),decide_eq_true (show q > q' from h)]
  have := up h
  simp only [cond_true,cond_false]
  unfold v_cmp
  rw [decide_eq_false (show ¬ a * e < c * d by omega),decide_eq_true (show a * e > c * d by omega)]; rfl
abbrev t_Zg (p0 p1 p2 p3:Int):Int := v_cmp (p0 * p3) (p2 * p1)
abbrev qre_Zg (p0 p1 p2 p3:Int):List Prop := [v_fit p0,0 < p1,v_fit p1,v_fit p2,0 < p3,v_fit p3]
theorem pp_Zg (p0 p1 p2 p3:Int) (hq:∀ p∈qre_Zg p0 p1 p2 p3,p):∀ p∈pre_Zg p0 p1 p2 p3,p := by
 obtain ⟨h0,h1,h2,h3,h4,h5,_⟩ := conj_of hq
 simp only [pre_Zg,fM]
 exact ⟨(l_Zg_0 p0 p1 p2 p3 h0 h1 h2 h3 h4 h5).1,by simp⟩
theorem tt_Zg (p0 p1 p2 p3:Int) (hq:∀ p∈qre_Zg p0 p1 p2 p3,p):s_Zg p0 p1 p2 p3 = t_Zg p0 p1 p2 p3 := by
 obtain ⟨h0,h1,h2,h3,h4,h5,_⟩ := conj_of hq
 exact (l_Zg_0 p0 p1 p2 p3 h0 h1 h2 h3 h4 h5).2

abbrev con_Zg:Con := ⟨P_Zg,R_Zg,fun x => qre_Zg x.1 x.2.1 x.2.2.1 x.2.2.2,fun x => t_Zg x.1 x.2.1 x.2.2.1 x.2.2.2⟩
theorem ok_Zg:ConOk Try.prog 103 con_Zg := okG k_Zg e_Zg hC_Zg fun x hx => tf_of (w_Zg_eq x.1 x.2.1 x.2.2.1 x.2.2.2 _) (d_Zg x.1 x.2.1 x.2.2.1 x.2.2.2 _ (pp_Zg x.1 x.2.1 x.2.2.1 x.2.2.2 hx) (tt_Zg x.1 x.2.1 x.2.2.1 x.2.2.2 hx))
def C_Zd:Cons := [(52,[],con_Ze),(103,[],con_Zg)]
theorem hC_Zd:ConsOk Try.prog C_Zd := cC ok_Ze <| cC ok_Zg <| ConsOk.nil
def w_Zd (p0:gF) (p1:gF) (K:Int→Prop):Prop := (∃ n0,(loopP (fun (y1:gG) k2 => ((((decide (y1.1≤5))=true) →((decide (y1.1≤5))=(decide (y1.1≤5)))) ∧((((decide (y1.1≤5))=true) →((decide (y1.1≤5))=(decide (y1.1≤5)))) ∧((((decide (y1.1≤5))=true) →((decide (y1.1≤5))=(decide (y1.1≤5)))) ∧((((decide (y1.1≤5))=true) →((decide (y1.1≤5))=(decide (y1.1≤5)))) ∧(((decide (y1.1≤5))=(decide (y1.1≤5))) ∧((((cond (decide (y1.1≤5)) (decide ((IntKind.i64.wrap ((2:Int) * y1.1)) < (p0.length:Int))) false)=true) →((v_ser p0) ∧((v_ser p1) ∧((p0.length = p1.length) ∧(((zz0≤y1.1) ∧(y1.1≤5)) ∧((v_ser p0) ∧((v_ser p1) ∧((p0.length = p1.length) ∧(((zz0≤y1.2) ∧(y1.2≤5)) ∧((v_fit (v_mis p0 p1 y1.1.toNat).1) ∧((zz0 < (v_mis p0 p1 y1.1.toNat).2) ∧((v_fit (v_mis p0 p1 y1.1.toNat).2) ∧((v_fit (v_mis p0 p1 y1.2.toNat).1) ∧((zz0 < (v_mis p0 p1 y1.2.toNat).2) ∧((v_fit (v_mis p0 p1 y1.2.toNat).2) ∧((((decide ((v_cmp ((v_mis p0 p1 y1.1.toNat).1 * (v_mis p0 p1 y1.2.toNat).2) ((v_mis p0 p1 y1.2.toNat).1 * (v_mis p0 p1 y1.1.toNat).2)) < 0))=true) →(k2 ((IntKind.i64.wrap (y1.1 + 1)),y1.1))) ∧(((decide ((v_cmp ((v_mis p0 p1 y1.1.toNat).1 * (v_mis p0 p1 y1.2.toNat).2) ((v_mis p0 p1 y1.2.toNat).1 * (v_mis p0 p1 y1.1.toNat).2)) < 0))=false) →(k2 ((IntKind.i64.wrap (y1.1 + 1)),y1.2))))))))))))))))))) ∧(((cond (decide (y1.1≤5)) (decide ((IntKind.i64.wrap ((2:Int) * y1.1)) < (p0.length:Int))) false)=false) →(K y1.2))))))))) n0 (zz1,zz0)))
theorem w_Zd_eq (p0:gF) (p1:gF) (K:Int→Prop):tfn F_Zd A_Zd C_Zd P_Zd R_Zd (p0,p1) K = w_Zd p0 p1 K := by kernel_rfl
def st_Zd_0 (p0:gF) (p1:gF) (y0:gG):(Int×Int) ⊕ Int := (cond (cond (decide (y0.1≤5)) (decide ((IntKind.i64.wrap ((2:Int) * y0.1)) < (p0.length:Int))) false) (cond (decide ((v_cmp ((v_mis p0 p1 y0.1.toNat).1 * (v_mis p0 p1 y0.2.toNat).2) ((v_mis p0 p1 y0.2.toNat).1 * (v_mis p0 p1 y0.1.toNat).2)) < 0)) (Sum.inl ((IntKind.i64.wrap (y0.1 + 1)),y0.1)) (Sum.inl ((IntKind.i64.wrap (y0.1 + 1)),y0.2))) (Sum.inr y0.2))
abbrev sp_Zd_0 (p0:gF) (p1:gF) (y0:gG):List Prop := [(((cond (decide (y0.1≤5)) (decide ((IntKind.i64.wrap ((2:Int) * y0.1)) < (p0.length:Int))) false)=true)→(v_ser p0)),(((cond (decide (y0.1≤5)) (decide ((IntKind.i64.wrap ((2:Int) * y0.1)) < (p0.length:Int))) false)=true)→(v_ser p1)),(((cond (decide (y0.1≤5)) (decide ((IntKind.i64.wrap ((2:Int) * y0.1)) < (p0.length:Int))) false)=true)→(p0.length = p1.length)),(((cond (decide (y0.1≤5)) (decide ((IntKind.i64.wrap ((2:Int) * y0.1)) < (p0.length:Int))) false)=true)→(((0:Int)≤y0.1)∧(y0.1≤5))),(((cond (decide (y0.1≤5)) (decide ((IntKind.i64.wrap ((2:Int) * y0.1)) < (p0.length:Int))) false)=true)→(((0:Int)≤y0.2)∧(y0.2≤5))),(((cond (decide (y0.1≤5)) (decide ((IntKind.i64.wrap ((2:Int) * y0.1)) < (p0.length:Int))) false)=true)→(v_fit (v_mis p0 p1 y0.1.toNat).1)),(((cond (decide (y0.1≤5)) (decide ((IntKind.i64.wrap ((2:Int) * y0.1)) < (p0.length:Int))) false)=true)→((0:Int) < (v_mis p0 p1 y0.1.toNat).2)),(((cond (decide (y0.1≤5)) (decide ((IntKind.i64.wrap ((2:Int) * y0.1)) < (p0.length:Int))) false)=true)→(v_fit (v_mis p0 p1 y0.1.toNat).2)),(((cond (decide (y0.1≤5)) (decide ((IntKind.i64.wrap ((2:Int) * y0.1)) < (p0.length:Int))) false)=true)→(v_fit (v_mis p0 p1 y0.2.toNat).1)),(((cond (decide (y0.1≤5)) (decide ((IntKind.i64.wrap ((2:Int) * y0.1)) < (p0.length:Int))) false)=true)→((0:Int) < (v_mis p0 p1 y0.2.toNat).2)),(((cond (decide (y0.1≤5)) (decide ((IntKind.i64.wrap ((2:Int) * y0.1)) < (p0.length:Int))) false)=true)→(v_fit (v_mis p0 p1 y0.2.toNat).2))]
def s_Zd (p0:gF) (p1:gF):Int := (lpv (0:Int) (st_Zd_0 p0 p1) ((1:Int),(0:Int)))
abbrev pre_Zd (p0:gF) (p1:gF):List Prop := [(OkL (st_Zd_0 p0 p1) (sp_Zd_0 p0 p1) ((1:Int),(0:Int)))]
theorem d_Zd (p0:gF) (p1:gF) (K:Int→Prop) (hp:∀ p∈pre_Zd p0 p1,p) (h:K (s_Zd p0 p1)):w_Zd p0 p1 K := by
 unfold w_Zd
 unfold s_Zd at h
 obtain ⟨hp0,_⟩ := conj_of hp
 exact (loop_gen (hp0) h (fun y0 k0 hp h => by
 unfold st_Zd_0 at h; obtain ⟨hp0,hp1,hp2,hp3,hp4,hp5,hp6,hp7,hp8,hp9,hp10,_⟩ := conj_of hp
 exact ⟨rf,rf,rf,rf,rfl,(br' h (fun e1 h => ⟨(hp0 e1),(hp1 e1),(hp2 e1),(hp3 e1),(hp0 e1),(hp1 e1),(hp2 e1),(hp4 e1),(hp5 e1),(hp6 e1),(hp7 e1),(hp8 e1),(hp9 e1),(hp10 e1),(br' h (fun e2 h => h)
  (fun e2 h => h))⟩)
  (fun e1 h => h))⟩))
theorem l_Zd_0 (p0 p1:gF) (h1:v_ser p0) (h2:v_ser p1) (he:p0.length = p1.length):OkL (st_Zd_0 p0 p1) (sp_Zd_0 p0 p1) (1,0)∧lpv 0 (st_Zd_0 p0 p1) (1,0)=(v_lag p0 p1:Int) := by
 have hl := h1.len
 have hne := h1.ne
 have main := @for_is Int (Int×Int) Int 0 (st_Zd_0 p0 p1) (sp_Zd_0 p0 p1) (fun i t => (i,t)) 1 (v_top p0 + 1) (fun j t => t = (v_best p0 p1 (j - 1):Int)) (fun _ _ => (v_lag p0 p1:Int)) (by omega) (by unfold v_top; omega) ?_ ?_ 0 rfl
 ·exact main
 ·rintro t h3
  have hw:IntKind.i64.wrap (2 * ((v_top p0 + 1:Nat):Int))=2 * ((v_top p0 + 1:Nat):Int) := wrap_id (by unfold v_top; omega) (by unfold v_top; omega)
  have hd:cond (decide (((v_top p0 + 1:Nat):Int)≤5)) (decide (2 * ((v_top p0 + 1:Nat):Int) < (p0.length:Int))) false = false := by
   cases c:decide (((v_top p0 + 1:Nat):Int)≤5)
   ·rfl
   ·have := of_decide_eq_true c
    rw [cond_true]; refine decide_eq_false ?_; unfold v_top at *; omega
  simp only [sp_Zd_0,st_Zd_0,fM,hw,hd,cond_false,h3]
  refine ⟨?_,rfl⟩
  and_intros
  all_goals first
   | (intro h; cases h; done)
   | (intro p hp; cases hp)
 ·rintro j t h0 hj h3
  have hj5:j≤5∧2 * j < p0.length := by unfold v_top at hj; omega
  have hw:IntKind.i64.wrap (2 * (j:Int))=2 * (j:Int) := wrap_id (by omega) (by omega)
  have hw1:IntKind.i64.wrap ((j:Int) + 1)=((j + 1:Nat):Int) := wrap_id (by omega) (by omega)
  have hd1:decide ((j:Int)≤5)=true := decide_eq_true (by omega)
  have hd2:decide (2 * (j:Int) < (p0.length:Int))=true := decide_eq_true (by omega)
  have hle := v_best_le p0 p1 (j - 1)
  obtain ⟨a1,a2,a3,a4⟩ := v_mis_le (g := j) h1 h2 he
  obtain ⟨b1,b2,b3,b4⟩ := v_mis_le (g := v_best p0 p1 (j - 1)) h1 h2 he
  have c1 := v_mis_pos (b := p1) (g := j) (o := p0) (by omega)
  have c2 := v_mis_pos (b := p1) (g := v_best p0 p1 (j - 1)) (o := p0) (by omega)
  have hs:v_best p0 p1 (j + 1 - 1)=cond (v_better p0 p1 j (v_best p0 p1 (j - 1))) j (v_best p0 p1 (j - 1)) := by
   obtain ⟨i,rfl⟩ : ∃ i,j = i + 1 := ⟨j - 1,by omega⟩
   rfl
  have hb:∀ r,decide (v_cmp ((v_mis p0 p1 j).1 * (v_mis p0 p1 r).2) ((v_mis p0 p1 r).1 * (v_mis p0 p1 j).2) < 0)=v_better p0 p1 j r := fun r => by
   unfold v_better
   exact decide_eq_decide.2 v_cmp_lt
  simp only [sp_Zd_0,st_Zd_0,fM,hw,hw1,hd1,hd2,cond_true,h3,Int.toNat_natCast,hb]
  rw [hs]
  generalize v_best p0 p1 (j - 1)=r at *
  refine ⟨?_,?_⟩
  ·and_intros
   all_goals first
    | (intro p hp; cases hp; done)
    | (intros; first | exact h1 | exact h2 | exact he | omega)
  ·cases v_better p0 p1 j r
   ·exact .inl ⟨_,rfl,rfl,trivial⟩
   ·exact .inl ⟨_,rfl,rfl,trivial⟩
abbrev t_Zd (p0:gF) (p1:gF):Int := (v_lag p0 p1:Int)
abbrev qre_Zd (p0:gF) (p1:gF):List Prop := [v_ser p0,v_ser p1,p0.length = p1.length]
theorem pp_Zd (p0:gF) (p1:gF) (hq:∀ p∈qre_Zd p0 p1,p):∀ p∈pre_Zd p0 p1,p := by
 obtain ⟨h1,h2,h3,_⟩ := conj_of hq
 simp only [pre_Zd,fM]
 exact ⟨(l_Zd_0 p0 p1 h1 h2 h3).1,by simp⟩
theorem tt_Zd (p0:gF) (p1:gF) (hq:∀ p∈qre_Zd p0 p1,p):s_Zd p0 p1 = t_Zd p0 p1 := by
 obtain ⟨h1,h2,h3,_⟩ := conj_of hq
 exact (l_Zd_0 p0 p1 h1 h2 h3).2

abbrev con_Zd:Con := ⟨P_Zd,R_Zd,fun x => qre_Zd x.1 x.2,fun x => t_Zd x.1 x.2⟩
theorem ok_Zd:ConOk Try.prog 49 con_Zd := okG k_Zd e_Zd hC_Zd fun x hx => tf_of (w_Zd_eq x.1 x.2 _) (d_Zd x.1 x.2 _ (pp_Zd x.1 x.2 hx) (tt_Zd x.1 x.2 hx))
def C_Zw:Cons := [(34,[],con_Z3)]
theorem hC_Zw:ConsOk Try.prog C_Zw := cC ok_Z3 <| ConsOk.nil
def w_Zw (p0:(List (Int×(Int×(Int×(Int×Int)))))) (K:Int→Prop):Prop := (K (v_cs p0).2)
theorem w_Zw_eq (p0:(List (Int×(Int×(Int×(Int×Int)))))) (K:Int→Prop):tfn F_Zw A_Zw C_Zw P_Zw R_Zw p0 K = w_Zw p0 K := by kernel_rfl
def s_Zw (p0:(List (Int×(Int×(Int×(Int×Int)))))):Int := (v_cs p0).2
abbrev pre_Zw (_p0:(List (Int×(Int×(Int×(Int×Int)))))):List Prop := []
theorem d_Zw (p0:(List (Int×(Int×(Int×(Int×Int)))))) (K:Int→Prop) (_hp:∀ p∈pre_Zw p0,p) (h:K (s_Zw p0)):w_Zw p0 K := by
 unfold w_Zw
 unfold s_Zw at h
 exact h
abbrev con_Zw:Con := ⟨P_Zw,R_Zw,fun x => pre_Zw x,fun x => s_Zw x⟩
theorem ok_Zw:ConOk Try.prog 24 con_Zw := okG k_Zw e_Zw hC_Zw fun x hx => tf_of (w_Zw_eq x _) (d_Zw x _ hx rfl)
def C_Z7:Cons := []
theorem hC_Z7:ConsOk Try.prog C_Z7 := ConsOk.nil
abbrev q0_Z7 (p0:(List (Int×(Int×(Int×(Int×Int)))))) (y1:(Int×(List (Int×(Int×(Int×(Int×Int))))))) := (p0.getD y1.1.toNat (zz0,(zz0,(zz0,(zz0,zz0)))))
def w_Z7 (p0:(List (Int×(Int×(Int×(Int×Int)))))) (p1:Int) (K:(List (Int×(Int×(Int×(Int×Int)))))→Prop):Prop := (∃ n0,(loopP (fun (y1:(Int×(List (Int×(Int×(Int×(Int×Int))))))) k2 => ((((decide ((wi (y1.1 + p1)) < (p0.length:Int)))=true) →((zz0≤y1.1) ∧((y1.1 < (p0.length:Int)) ∧((zz0≤(wi (y1.1 + p1))) ∧(((wi (y1.1 + p1)) < (p0.length:Int)) ∧((((y1.2.length + (List.length (((q0_Z7 p0 y1).1,((q0_Z7 p0 y1).2.1,((q0_Z7 p0 y1).2.2.1,((q0_Z7 p0 y1).2.2.2.1,(p0.getD (Int.toNat (wi (y1.1 + p1))) (zz0,(zz0,(zz0,(zz0,zz0))))).2.2.2.2)))) :: ([]:List (Int×(Int×(Int×(Int×Int)))))))) * 40)≤140737488355328) ∧(k2 ((wi (y1.1 + zz1)),(y1.2 ++ (((q0_Z7 p0 y1).1,((q0_Z7 p0 y1).2.1,((q0_Z7 p0 y1).2.2.1,((q0_Z7 p0 y1).2.2.2.1,(p0.getD (Int.toNat (wi (y1.1 + p1))) (zz0,(zz0,(zz0,(zz0,zz0))))).2.2.2.2)))) :: ([]:List (Int×(Int×(Int×(Int×Int))))))))))))))) ∧(((decide ((wi (y1.1 + p1)) < (p0.length:Int)))=false) →(K y1.2)))) n0 (zz0,([]:List (Int×(Int×(Int×(Int×Int))))))))
theorem w_Z7_eq (p0:(List (Int×(Int×(Int×(Int×Int)))))) (p1:Int) (K:(List (Int×(Int×(Int×(Int×Int)))))→Prop):tfn F_Z7 A_Z7 C_Z7 P_Z7 R_Z7 (p0,p1) K = w_Z7 p0 p1 K := by kernel_rfl
def st_Z7_0 (p0:(List (Int×(Int×(Int×(Int×Int)))))) (p1:Int) (y0:(Int×(List (Int×(Int×(Int×(Int×Int))))))):(Int×(List (Int×(Int×(Int×(Int×Int)))))) ⊕ (List (Int×(Int×(Int×(Int×Int))))) := (cond (decide ((IntKind.i64.wrap (y0.1 + p1)) < (p0.length:Int))) (Sum.inl ((IntKind.i64.wrap (y0.1 + 1)),(y0.2 ++ (((p0.getD y0.1.toNat ((0:Int),((0:Int),((0:Int),(0,0))))).1,((p0.getD y0.1.toNat ((0:Int),((0:Int),((0:Int),(0,0))))).2.1,((p0.getD y0.1.toNat ((0:Int),((0:Int),((0:Int),(0,0))))).2.2.1,((p0.getD y0.1.toNat ((0:Int),((0:Int),((0:Int),(0,0))))).2.2.2.1,(p0.getD (Int.toNat (IntKind.i64.wrap (y0.1 + p1))) ((0:Int),((0:Int),((0:Int),(0,0))))).2.2.2.2)))) :: ([]:List (Int×(Int×(Int×(Int×Int))))))))) (Sum.inr y0.2))
abbrev sp_Z7_0 (p0:(List (Int×(Int×(Int×(Int×Int)))))) (p1:Int) (y0:(Int×(List (Int×(Int×(Int×(Int×Int))))))):List Prop := [(((decide ((IntKind.i64.wrap (y0.1 + p1)) < (p0.length:Int)))=true)→((0:Int)≤y0.1)),(((decide ((IntKind.i64.wrap (y0.1 + p1)) < (p0.length:Int)))=true)→(y0.1 < (p0.length:Int))),(((decide ((IntKind.i64.wrap (y0.1 + p1)) < (p0.length:Int)))=true)→((0:Int)≤(IntKind.i64.wrap (y0.1 + p1)))),(((decide ((IntKind.i64.wrap (y0.1 + p1)) < (p0.length:Int)))=true)→((IntKind.i64.wrap (y0.1 + p1)) < (p0.length:Int))),(((decide ((IntKind.i64.wrap (y0.1 + p1)) < (p0.length:Int)))=true)→(((y0.2.length + (List.length (((p0.getD y0.1.toNat ((0:Int),((0:Int),((0:Int),(0,0))))).1,((p0.getD y0.1.toNat ((0:Int),((0:Int),((0:Int),(0,0))))).2.1,((p0.getD y0.1.toNat ((0:Int),((0:Int),((0:Int),(0,0))))).2.2.1,((p0.getD y0.1.toNat ((0:Int),((0:Int),((0:Int),(0,0))))).2.2.2.1,(p0.getD (Int.toNat (IntKind.i64.wrap (y0.1 + p1))) ((0:Int),((0:Int),((0:Int),(0,0))))).2.2.2.2)))) :: ([]:List (Int×(Int×(Int×(Int×Int)))))))) * 40)≤140737488355328))]
def s_Z7 (p0:(List (Int×(Int×(Int×(Int×Int)))))) (p1:Int):(List (Int×(Int×(Int×(Int×Int))))) := (lpv [] (st_Z7_0 p0 p1) ((0:Int),([]:List (Int×(Int×(Int×(Int×Int)))))))
abbrev pre_Z7 (p0:(List (Int×(Int×(Int×(Int×Int)))))) (p1:Int):List Prop := [(OkL (st_Z7_0 p0 p1) (sp_Z7_0 p0 p1) ((0:Int),([]:List (Int×(Int×(Int×(Int×Int)))))))]
theorem d_Z7 (p0:(List (Int×(Int×(Int×(Int×Int)))))) (p1:Int) (K:(List (Int×(Int×(Int×(Int×Int)))))→Prop) (hp:∀ p∈pre_Z7 p0 p1,p) (h:K (s_Z7 p0 p1)):w_Z7 p0 p1 K := by
 unfold w_Z7
 unfold s_Z7 at h
 obtain ⟨hp0,_⟩ := conj_of hp
 exact (loop_gen (hp0) h (fun y0 k0 hp h => by
 unfold st_Z7_0 at h; obtain ⟨hp0,hp1,hp2,hp3,hp4,_⟩ := conj_of hp
 exact (br' h (fun e1 h => ⟨(hp0 e1),(hp1 e1),(hp2 e1),(hp3 e1),(hp4 e1),h⟩)
  (fun e1 h => h))))
theorem l_Z7_0 (p0:List (Int×Int×Int×Int×Int)) (g:Nat) (hl:p0.length≤20) (hg:g≤5) (hg' : g < p0.length):OkL (st_Z7_0 p0 g) (sp_Z7_0 p0 g) (0,[])∧lpv [] (st_Z7_0 p0 g) (0,[])=v_lgd p0 g := by
 refine @forapp_is (Int×Int×Int×Int×Int) (Int×List (Int×Int×Int×Int×Int)) (List (Int×Int×Int×Int×Int)) [] (st_Z7_0 p0 g) (sp_Z7_0 p0 g) (fun i t => (i,t)) 0 (p0.length - g) (v_lgk p0 g) (fun t => t) (Nat.zero_le _) (by omega) ?_ ?_
 ·rintro t _
  have hw:IntKind.i64.wrap (((p0.length - g:Nat):Int) + g)=(p0.length:Int) := by rw [wrap_id (by omega) (by omega)]; omega
  simp only [sp_Z7_0,st_Z7_0,fM,hw,decide_eq_false (Int.lt_irrefl (p0.length:Int)),cond_false]
  refine ⟨?_,by first | rfl | trivial⟩
  and_intros
  all_goals first
   | (intro h; cases h; done)
   | (intro p hp; cases hp)
 ·rintro j t h0 hj h1
  have hw1:IntKind.i64.wrap ((j:Int) + 1)=((j + 1:Nat):Int) := wrap_id (by omega) (by omega)
  have hw2:IntKind.i64.wrap ((j:Int) + g)=((j + g:Nat):Int) := wrap_id (by omega) (by omega)
  have hd:decide (((j + g:Nat):Int) < (p0.length:Int))=true := decide_eq_true (by omega)
  simp only [sp_Z7_0,st_Z7_0,fM,Int.toNat_natCast,hw1,hw2,hd,cond_true]
  refine ⟨?_,by first | rfl | trivial⟩
  and_intros
  all_goals first
   | (intro p hp; cases hp; done)
   | (intros; simp only [List.length_cons,List.length_nil]; omega)
   | (intros; omega)
abbrev t_Z7 (p0:List (Int×Int×Int×Int×Int)) (p1:Int):List (Int×Int×Int×Int×Int) := v_lgd p0 p1.toNat
abbrev qre_Z7 (p0:List (Int×Int×Int×Int×Int)) (p1:Int):List Prop := [p0.length≤20,0≤p1∧p1≤5,p1 < p0.length]
theorem pp_Z7 (p0:List (Int×Int×Int×Int×Int)) (p1:Int) (hq:∀ p∈qre_Z7 p0 p1,p):∀ p∈pre_Z7 p0 p1,p := by
 obtain ⟨h1,h2,h3,_⟩ := conj_of hq
 obtain ⟨g,rfl⟩ : ∃ g:Nat,p1 = g := ⟨p1.toNat,by omega⟩
 simp only [pre_Z7,fM]
 exact ⟨(l_Z7_0 p0 g h1 (by omega) (by omega)).1,by simp⟩
theorem tt_Z7 (p0:List (Int×Int×Int×Int×Int)) (p1:Int) (hq:∀ p∈qre_Z7 p0 p1,p):s_Z7 p0 p1 = t_Z7 p0 p1 := by
 obtain ⟨h1,h2,h3,_⟩ := conj_of hq
 obtain ⟨g,rfl⟩ : ∃ g:Nat,p1 = g := ⟨p1.toNat,by omega⟩
 exact (l_Z7_0 p0 g h1 (by omega) (by omega)).2

abbrev con_Z7:Con := ⟨P_Z7,R_Z7,fun x => qre_Z7 x.1 x.2,fun x => t_Z7 x.1 x.2⟩
theorem ok_Z7:ConOk Try.prog 51 con_Z7 := okG k_Z7 e_Z7 hC_Z7 fun x hx => tf_of (w_Z7_eq x.1 x.2 _) (d_Z7 x.1 x.2 _ (pp_Z7 x.1 x.2 hx) (tt_Z7 x.1 x.2 hx))
def C_Za:Cons := []
theorem hC_Za:ConsOk Try.prog C_Za := ConsOk.nil
abbrev q0_Za (p0:(List (Int×(Int×(Int×(Int×Int)))))) (p1:(List (Int×(Int×(Int×(Int×Int)))))) (y1:Int) := (!(((p0.getD y1.toNat (zz0,(zz0,(zz0,(zz0,zz0))))).1 == (p1.getD y1.toNat (zz0,(zz0,(zz0,(zz0,zz0))))).1) && (((p0.getD y1.toNat (zz0,(zz0,(zz0,(zz0,zz0))))).2.1 == (p1.getD y1.toNat (zz0,(zz0,(zz0,(zz0,zz0))))).2.1) && (((p0.getD y1.toNat (zz0,(zz0,(zz0,(zz0,zz0))))).2.2.1 == (p1.getD y1.toNat (zz0,(zz0,(zz0,(zz0,zz0))))).2.2.1) && (((p0.getD y1.toNat (zz0,(zz0,(zz0,(zz0,zz0))))).2.2.2.1 == (p1.getD y1.toNat (zz0,(zz0,(zz0,(zz0,zz0))))).2.2.2.1) && (((p0.getD y1.toNat (zz0,(zz0,(zz0,(zz0,zz0))))).2.2.2.2 == (p1.getD y1.toNat (zz0,(zz0,(zz0,(zz0,zz0))))).2.2.2.2) && true))))))
def w_Za (p0:(List (Int×(Int×(Int×(Int×Int)))))) (p1:(List (Int×(Int×(Int×(Int×Int)))))) (K:Bool→Prop):Prop := (((((p0.length:Int) != (p1.length:Int))=true) →(K false)) ∧((((p0.length:Int) != (p1.length:Int))=false) →(∃ n0,(loopP (fun (y1:Int) k2 => ((((decide (y1 < (p0.length:Int)))=true) →((zz0≤y1) ∧((y1 < (p0.length:Int)) ∧((zz0≤y1) ∧((y1 < (p1.length:Int)) ∧((((q0_Za p0 p1 y1)=true) →(K false)) ∧(((q0_Za p0 p1 y1)=false) →(k2 (wi (y1 + zz1)))))))))) ∧(((decide (y1 < (p0.length:Int)))=false) →(K true)))) n0 zz0))))
theorem w_Za_eq (p0:(List (Int×(Int×(Int×(Int×Int)))))) (p1:(List (Int×(Int×(Int×(Int×Int)))))) (K:Bool→Prop):tfn F_Za A_Za C_Za P_Za R_Za (p0,p1) K = w_Za p0 p1 K := by kernel_rfl
def st_Za_0 (p0:(List (Int×(Int×(Int×(Int×Int)))))) (p1:(List (Int×(Int×(Int×(Int×Int)))))) (y1:Int):Int ⊕ Bool := (cond (decide (y1 < (p0.length:Int))) (cond (!(((p0.getD y1.toNat ((0:Int),((0:Int),((0:Int),(0,0))))).1 == (p1.getD y1.toNat ((0:Int),((0:Int),((0:Int),(0,0))))).1) && (((p0.getD y1.toNat ((0:Int),((0:Int),((0:Int),(0,0))))).2.1 == (p1.getD y1.toNat ((0:Int),((0:Int),((0:Int),(0,0))))).2.1) && (((p0.getD y1.toNat ((0:Int),((0:Int),((0:Int),(0,0))))).2.2.1 == (p1.getD y1.toNat ((0:Int),((0:Int),((0:Int),(0,0))))).2.2.1) && (((p0.getD y1.toNat ((0:Int),((0:Int),((0:Int),(0,0))))).2.2.2.1 == (p1.getD y1.toNat ((0:Int),((0:Int),((0:Int),(0,0))))).2.2.2.1) && (((p0.getD y1.toNat ((0:Int),((0:Int),((0:Int),(0,0))))).2.2.2.2 == (p1.getD y1.toNat ((0:Int),((0:Int),((0:Int),(0,0))))).2.2.2.2) && true)))))) (Sum.inr false) (Sum.inl (IntKind.i64.wrap (y1 + 1)))) (Sum.inr true))
abbrev sp_Za_0 (p0:(List (Int×(Int×(Int×(Int×Int)))))) (p1:(List (Int×(Int×(Int×(Int×Int)))))) (y1:Int):List Prop := [(((decide (y1 < (p0.length:Int)))=true)→((0:Int)≤y1)),(((decide (y1 < (p0.length:Int)))=true)→(y1 < (p0.length:Int))),(((decide (y1 < (p0.length:Int)))=true)→(y1 < (p1.length:Int)))]
def s_Za (p0:(List (Int×(Int×(Int×(Int×Int)))))) (p1:(List (Int×(Int×(Int×(Int×Int)))))):Bool := (cond ((p0.length:Int) != (p1.length:Int)) false (lpv false (st_Za_0 p0 p1) (0:Int)))
abbrev pre_Za (p0:(List (Int×(Int×(Int×(Int×Int)))))) (p1:(List (Int×(Int×(Int×(Int×Int)))))):List Prop := [((((p0.length:Int) != (p1.length:Int))=false)→(OkL (st_Za_0 p0 p1) (sp_Za_0 p0 p1) (0:Int)))]
theorem d_Za (p0:(List (Int×(Int×(Int×(Int×Int)))))) (p1:(List (Int×(Int×(Int×(Int×Int)))))) (K:Bool→Prop) (hp:∀ p∈pre_Za p0 p1,p) (h:K (s_Za p0 p1)):w_Za p0 p1 K := by
 unfold w_Za
 unfold s_Za at h
 obtain ⟨hp0,_⟩ := conj_of hp
 exact (br' h (fun e0 h => h)
  (fun e0 h => (loop_gen (hp0 e0) h (fun y1 k1 hp h => by
 unfold st_Za_0 at h; obtain ⟨hp0,hp1,hp2,_⟩ := conj_of hp
 exact (br' h (fun e2 h => ⟨(hp0 e2),(hp1 e2),(hp0 e2),(hp2 e2),(br' h (fun e3 h => h)
  (fun e3 h => h))⟩)
  (fun e2 h => h))))))
theorem l_Za_0 (p0 p1:List (Int×Int×Int×Int×Int)) (hl:lenOk p0) (he:p0.length = p1.length):OkL (st_Za_0 p0 p1) (sp_Za_0 p0 p1) 0∧lpv false (st_Za_0 p0 p1) 0 = v_scan (fun i x => cond (!(((x.1 == (p1.getD i.toNat (0,0,0,0,0)).1) && ((x.2.1 == (p1.getD i.toNat (0,0,0,0,0)).2.1) && ((x.2.2.1 == (p1.getD i.toNat (0,0,0,0,0)).2.2.1) && ((x.2.2.2.1 == (p1.getD i.toNat (0,0,0,0,0)).2.2.2.1) && ((x.2.2.2.2 == (p1.getD i.toNat (0,0,0,0,0)).2.2.2.2) && true))))))) (some false) none) true 0 p0 := by
 refine scan_is p0 (0,0,0,0,0) (fun i x => cond (!(((x.1 == (p1.getD i.toNat (0,0,0,0,0)).1) && ((x.2.1 == (p1.getD i.toNat (0,0,0,0,0)).2.1) && ((x.2.2.1 == (p1.getD i.toNat (0,0,0,0,0)).2.2.1) && ((x.2.2.2.1 == (p1.getD i.toNat (0,0,0,0,0)).2.2.2.1) && ((x.2.2.2.2 == (p1.getD i.toNat (0,0,0,0,0)).2.2.2.2) && true))))))) (some false) none) true hl ?_ ?_
 ·refine ⟨by simp only [sp_Za_0,fM,decide_eq_true_eq]; simp,by simp [st_Za_0]⟩
 ·intro j hj
  have hj' : (j:Int) < p0.length := by omega
  refine ⟨by simp only [sp_Za_0,fM,decide_eq_true_eq,Int.toNat_natCast]; simp <;> omega,?_⟩
  simp only [st_Za_0,hj',decide_true,Int.toNat_natCast,cond_true,wrap_nat (show (j:Int)≤9223372036854775806 by unfold lenOk at hl; omega)]
  generalize p0.getD j (0,0,0,0,0)=x
  generalize p1.getD j (0,0,0,0,0)=y
  cases ((x.1 == y.1) && ((x.2.1 == y.2.1) && ((x.2.2.1 == y.2.2.1) && ((x.2.2.2.1 == y.2.2.2.1) && ((x.2.2.2.2 == y.2.2.2.2) && true))))) <;> rfl
abbrev t_Za (p0:List (Int×Int×Int×Int×Int)) (p1:List (Int×Int×Int×Int×Int)):Bool := decide (p0 = p1)
abbrev qre_Za (p0:List (Int×Int×Int×Int×Int)) (_p1:List (Int×Int×Int×Int×Int)):List Prop := [lenOk p0]
theorem pp_Za (p0:List (Int×Int×Int×Int×Int)) (p1:List (Int×Int×Int×Int×Int)) (hq:∀ p∈qre_Za p0 p1,p):∀ p∈pre_Za p0 p1,p := by
 simp only [pre_Za,fM]
 refine ⟨fun h => (l_Za_0 p0 p1 (conj_of hq).1 ?_).1,by simp⟩
 have h' : (p0.length:Int)=p1.length := by simpa using h
 omega
theorem tt_Za (p0:List (Int×Int×Int×Int×Int)) (p1:List (Int×Int×Int×Int×Int)) (hq:∀ p∈qre_Za p0 p1,p):s_Za p0 p1 = t_Za p0 p1 := by
 unfold s_Za t_Za
 by_cases h:p0.length = p1.length
 ·rw [show ((p0.length:Int) != (p1.length:Int))=false by simp [h]]
  refine (l_Za_0 p0 p1 (conj_of hq).1 h).2.trans ?_
  exact v_scan_eq (0,0,0,0,0) (fun x y => ((x.1 == y.1) && ((x.2.1 == y.2.1) && ((x.2.2.1 == y.2.2.1) && ((x.2.2.2.1 == y.2.2.2.1) && ((x.2.2.2.2 == y.2.2.2.2) && true)))))) (fun x y => by by_cases h1:x.1 = y.1 <;> by_cases h2:x.2.1 = y.2.1 <;> by_cases h3:x.2.2.1 = y.2.2.1 <;> by_cases h4:x.2.2.2.1 = y.2.2.2.1 <;> by_cases h5:x.2.2.2.2 = y.2.2.2.2 <;> simp [h1,h2,h3,h4,h5,Prod.ext_iff]) p0 p1 h
 ·rw [show ((p0.length:Int) != (p1.length:Int))=true by simp; omega]
  have:p0 ≠ p1 := fun e => h (congrArg List.length e)
  simp [this]

abbrev con_Za:Con := ⟨P_Za,R_Za,fun x => qre_Za x.1 x.2,fun x => t_Za x.1 x.2⟩
theorem ok_Za:ConOk Try.prog 50 con_Za := okG k_Za e_Za hC_Za fun x hx => tf_of (w_Za_eq x.1 x.2 _) (d_Za x.1 x.2 _ (pp_Za x.1 x.2 hx) (tt_Za x.1 x.2 hx))
end Go.Proofs.Ytdkhhafmidokmaa
