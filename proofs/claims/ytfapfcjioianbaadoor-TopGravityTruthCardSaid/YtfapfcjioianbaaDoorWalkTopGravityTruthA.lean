/- What the functions that TopGravityTruth reaches compute: contracts, each function once. No condition. -/
import Derived.Test.YtfapfcjioianbaaDoorLayB
import Derived.Test.YtfapfcjioianbaaDoorRp1tTopGravityTruth
import Derived.KernelRfl
namespace Go.Proofs.YtfapfcjioianbaaDoor
open Go Go.Mx
set_option maxRecDepth 100000
set_option maxHeartbeats 4000000
abbrev gF:=List Int
abbrev gG:=Int×Int
abbrev gA:=List (List Int×List Int)
abbrev gB:=List (Int×Int×Int)
abbrev gC:=List (Int×Int)
abbrev gE:=Int×List Int
abbrev gD:=(Int×List Int)×(Int×List Int)
theorem fM.{u} {α:Type u} {p:α→Prop} {a:α} {l:List α}:(∀ x∈a::l,p x) ↔ p a ∧ ∀ x∈l,p x := List.forall_mem_cons
theorem cC {P:Program} {f:FuncId} {ids:List FuncId} {c:Con} {C:Cons} (h:ConOk P f c) (hC:ConsOk P C) (hm:isMark ids=false := by rfl):ConsOk P ((f,ids,c)::C) := ConsOk.cons h hC hm
theorem okG {P:Program} {f:FuncId} {F:TFn} {A:Nat→Ty} {C:Cons} {ps rs:List PSh} {pre:(tyPs ps).den→List Prop} {s:(tyPs ps).den→(tyPs rs).den} (k:callable P f=true) (e:cFn P f=some F.erase) (hC:ConsOk P C) (h:∀ x,(∀ p∈pre x,p)→Tf F A C ps rs x (fun z => z=s x)):ConOk P f ⟨ps,rs,pre,s⟩ := ⟨k,fun x hx => ret_tf e hC (h x hx)⟩
abbrev wi (n:Int):Int := IntKind.i64.wrap n
abbrev zz0:Int := 0
abbrev zz1:Int := 1
abbrev zz2:Int := 2
abbrev zz3:Int := 3
theorem od {p:Prop} [Decidable p] (h:decide p = true):p := of_decide_eq_true h
theorem nof {p:Prop} (h:false = true):p := Bool.noConfusion h
theorem rf {p:Prop} {α:Sort _} {a:α} (_:p):a = a := rfl
def C_Z6:Cons := []
theorem hC_Z6:ConsOk Tryd.prog C_Z6 := ConsOk.nil
def w_Z6 (p0:Int) (p1:Int) (p2:Int) (K:Bool→Prop):Prop := ((((decide (p1≤p0))=true) →((decide (p1≤p0))=(decide (p1≤p0)))) ∧((((decide (p1≤p0))=true) →((decide (p1≤p0))=(decide (p1≤p0)))) ∧(((decide (p1≤p0))=(decide (p1≤p0))) ∧(K (cond (decide (p1≤p0)) (decide (p0≤p2)) false)))))
theorem w_Z6_eq (p0:Int) (p1:Int) (p2:Int) (K:Bool→Prop):tfn F_Z6 A_Z6 C_Z6 P_Z6 R_Z6 (p0,p1,p2) K = w_Z6 p0 p1 p2 K := by kernel_rfl
def s_Z6 (p0:Int) (p1:Int) (p2:Int):Bool := (cond (decide (p1≤p0)) (decide (p0≤p2)) false)
abbrev pre_Z6 (_p0:Int) (_p1:Int) (_p2:Int):List Prop := []
theorem d_Z6 (p0:Int) (p1:Int) (p2:Int) (K:Bool→Prop) (_hp:∀ p∈pre_Z6 p0 p1 p2,p) (h:K (s_Z6 p0 p1 p2)):w_Z6 p0 p1 p2 K := by
 unfold w_Z6
 unfold s_Z6 at h
 exact ⟨rf,rf,rfl,h⟩
abbrev con_Z6:Con := ⟨P_Z6,R_Z6,fun x => pre_Z6 x.1 x.2.1 x.2.2,fun x => s_Z6 x.1 x.2.1 x.2.2⟩
theorem ok_Z6:ConOk Tryd.prog 5 con_Z6 := okG k_Z6 e_Z6 hC_Z6 fun x hx => tf_of (w_Z6_eq x.1 x.2.1 x.2.2 _) (d_Z6 x.1 x.2.1 x.2.2 _ hx rfl)
def C_Zl:Cons := []
theorem hC_Zl:ConsOk Tryd.prog C_Zl := ConsOk.nil
def w_Zl (p0:Int) (p1:Int) (p2:Int) (K:Bool→Prop):Prop := ((((decide (p1≤p0))=true) →((decide (p1≤p0))=(decide (p1≤p0)))) ∧((((decide (p1≤p0))=true) →((decide (p1≤p0))=(decide (p1≤p0)))) ∧(((decide (p1≤p0))=(decide (p1≤p0))) ∧(K (cond (decide (p1≤p0)) (decide (p0≤p2)) false)))))
theorem w_Zl_eq (p0:Int) (p1:Int) (p2:Int) (K:Bool→Prop):tfn F_Zl A_Zl C_Zl P_Zl R_Zl (p0,p1,p2) K = w_Zl p0 p1 p2 K := by kernel_rfl
def s_Zl (p0:Int) (p1:Int) (p2:Int):Bool := (cond (decide (p1≤p0)) (decide (p0≤p2)) false)
abbrev pre_Zl (_p0:Int) (_p1:Int) (_p2:Int):List Prop := []
theorem d_Zl (p0:Int) (p1:Int) (p2:Int) (K:Bool→Prop) (_hp:∀ p∈pre_Zl p0 p1 p2,p) (h:K (s_Zl p0 p1 p2)):w_Zl p0 p1 p2 K := by
 unfold w_Zl
 unfold s_Zl at h
 exact ⟨rf,rf,rfl,h⟩
abbrev con_Zl:Con := ⟨P_Zl,R_Zl,fun x => pre_Zl x.1 x.2.1 x.2.2,fun x => s_Zl x.1 x.2.1 x.2.2⟩
theorem ok_Zl:ConOk Tryd.prog 26 con_Zl := okG k_Zl e_Zl hC_Zl fun x hx => tf_of (w_Zl_eq x.1 x.2.1 x.2.2 _) (d_Zl x.1 x.2.1 x.2.2 _ hx rfl)
theorem tx_within {n lo hi:Int}:s_Zl n lo hi = true ↔ lo≤n∧n≤hi := by unfold s_Zl; simp
def C_Z9:Cons := [(26,[],con_Zl)]
theorem hC_Z9:ConsOk Tryd.prog C_Z9 := cC ok_Zl <| ConsOk.nil
def w_Z9 (p0:Int) (p1:Int) (K:Bool→Prop):Prop := (K (s_Zl p0 (IntKind.i64.wrap (zz0 - p1)) p1))
theorem w_Z9_eq (p0:Int) (p1:Int) (K:Bool→Prop):tfn F_Z9 A_Z9 C_Z9 P_Z9 R_Z9 (p0,p1) K = w_Z9 p0 p1 K := by kernel_rfl
def s_Z9 (p0:Int) (p1:Int):Bool := (s_Zl p0 (IntKind.i64.wrap ((0:Int) - p1)) p1)
abbrev pre_Z9 (_p0:Int) (_p1:Int):List Prop := []
theorem d_Z9 (p0:Int) (p1:Int) (K:Bool→Prop) (_hp:∀ p∈pre_Z9 p0 p1,p) (h:K (s_Z9 p0 p1)):w_Z9 p0 p1 K := by
 unfold w_Z9
 unfold s_Z9 at h
 exact h
abbrev con_Z9:Con := ⟨P_Z9,R_Z9,fun x => pre_Z9 x.1 x.2,fun x => s_Z9 x.1 x.2⟩
theorem ok_Z9:ConOk Tryd.prog 38 con_Z9 := okG k_Z9 e_Z9 hC_Z9 fun x hx => tf_of (w_Z9_eq x.1 x.2 _) (d_Z9 x.1 x.2 _ hx rfl)
def C_Zu:Cons := [(38,[],con_Z9)]
theorem hC_Zu:ConsOk Tryd.prog C_Zu := cC ok_Z9 <| ConsOk.nil
def w_Zu (p0:Int) (K:Bool→Prop):Prop := (K (!(s_Z9 p0 (100000:Int))))
theorem w_Zu_eq (p0:Int) (K:Bool→Prop):tfn F_Zu A_Zu C_Zu P_Zu R_Zu p0 K = w_Zu p0 K := by kernel_rfl
def s_Zu (p0:Int):Bool := (!(s_Z9 p0 (100000:Int)))
abbrev pre_Zu (_p0:Int):List Prop := []
theorem d_Zu (p0:Int) (K:Bool→Prop) (_hp:∀ p∈pre_Zu p0,p) (h:K (s_Zu p0)):w_Zu p0 K := by
 unfold w_Zu
 unfold s_Zu at h
 exact h
abbrev con_Zu:Con := ⟨P_Zu,R_Zu,fun x => pre_Zu x,fun x => s_Zu x⟩
theorem ok_Zu:ConOk Tryd.prog 47 con_Zu := okG k_Zu e_Zu hC_Zu fun x hx => tf_of (w_Zu_eq x _) (d_Zu x _ hx rfl)
def C_Zj:Cons := [(47,[],con_Zu)]
theorem hC_Zj:ConsOk Tryd.prog C_Zj := cC ok_Zu <| ConsOk.nil
def w_Zj (p0:gF) (_p1:PUnit) (K:Int→Prop):Prop := (∃ n0,(loopP (fun (y1:Int) k2 => ((((decide (y1 < (p0.length:Int)))=true) →((zz0≤y1) ∧((y1 < (p0.length:Int)) ∧((((s_Zu (p0.getD y1.toNat zz0))=true) →(K y1)) ∧(((s_Zu (p0.getD y1.toNat zz0))=false) →(k2 (IntKind.i64.wrap (y1 + 1)))))))) ∧(((decide (y1 < (p0.length:Int)))=false) →(K (-1:Int))))) n0 zz0))
theorem w_Zj_eq (p0:gF) (p1:PUnit) (K:Int→Prop):tfn F_Zj A_Zj C_Zj P_Zj R_Zj (p0,p1) K = w_Zj p0 p1 K := by kernel_rfl
def st_Zj_0 (p0:gF) (_p1:PUnit) (y0:Int):Int ⊕ Int := (cond (decide (y0 < (p0.length:Int))) (cond (s_Zu (p0.getD y0.toNat (0:Int))) (Sum.inr y0) (Sum.inl (IntKind.i64.wrap (y0 + 1)))) (Sum.inr (-1:Int)))
abbrev sp_Zj_0 (p0:gF) (_p1:PUnit) (y0:Int):List Prop := [(((decide (y0 < (p0.length:Int)))=true)→((0:Int)≤y0)),(((decide (y0 < (p0.length:Int)))=true)→(y0 < (p0.length:Int)))]
def s_Zj (p0:gF) (p1:PUnit):Int := (lpv (0:Int) (st_Zj_0 p0 p1) (0:Int))
abbrev pre_Zj (p0:gF) (p1:PUnit):List Prop := [(OkL (st_Zj_0 p0 p1) (sp_Zj_0 p0 p1) (0:Int))]
theorem d_Zj (p0:gF) (p1:PUnit) (K:Int→Prop) (hp:∀ p∈pre_Zj p0 p1,p) (h:K (s_Zj p0 p1)):w_Zj p0 p1 K := by
 unfold w_Zj
 unfold s_Zj at h
 obtain ⟨hp0,_⟩ := conj_of hp
 exact (loop_gen (hp0) h (fun y0 k0 hp h => by
 unfold st_Zj_0 at h; obtain ⟨hp0,hp1,_⟩ := conj_of hp
 exact (br' h (fun e1 h => ⟨(hp0 e1),(hp1 e1),(br' h (fun e2 h => h)
  (fun e2 h => h))⟩)
  (fun e1 h => h))))
theorem l_Zj_0 (p0:gF) (p1:PUnit) (hl:lenOk p0):OkL (st_Zj_0 p0 p1) (sp_Zj_0 p0 p1) 0∧lpv (0:Int) (st_Zj_0 p0 p1) 0 = v_scan (fun i x => cond (s_Zu x) (some i) none) (-1:Int) 0 p0 := by
 refine scan_is p0 0 (fun i x => cond (s_Zu x) (some i) none) (-1:Int) hl ?_ ?_
 ·refine ⟨by simp only [sp_Zj_0,fM,decide_eq_true_eq]; simp,by simp [st_Zj_0]⟩
 ·intro j hj
  have hj' : (j:Int) < p0.length := by omega
  refine ⟨by simp only [sp_Zj_0,fM,decide_eq_true_eq,Int.toNat_natCast]; simp <;> omega,?_⟩
  simp only [st_Zj_0,hj',decide_true,Int.toNat_natCast,cond_true,wrap_nat (show (j:Int)≤9223372036854775806 by unfold lenOk at hl; omega)]
  generalize p0.getD j 0 = x
  cases s_Zu x <;> rfl
def v_idx_Zj (p0:gF):Int := v_scan (fun i x => cond (s_Zu x) (some i) none) (-1) 0 p0
abbrev t_Zj (p0:gF) (_p1:PUnit):Int := v_idx_Zj p0
abbrev qre_Zj (p0:gF) (_p1:PUnit):List Prop := [lenOk p0]
theorem pp_Zj (p0:gF) (p1:PUnit) (hq:∀ p∈qre_Zj p0 p1,p):∀ p∈pre_Zj p0 p1,p := by
 simp only [pre_Zj,fM]
 exact ⟨(l_Zj_0 p0 p1 (conj_of hq).1).1,by simp⟩
theorem tt_Zj (p0:gF) (p1:PUnit) (hq:∀ p∈qre_Zj p0 p1,p):s_Zj p0 p1 = t_Zj p0 p1 := by
 exact (l_Zj_0 p0 p1 (conj_of hq).1).2

abbrev con_Zj:Con := ⟨P_Zj,R_Zj,fun x => qre_Zj x.1 x.2,fun x => t_Zj x.1 x.2⟩
theorem ok_Zj:ConOk Tryd.prog 50 con_Zj := okG k_Zj e_Zj hC_Zj fun x hx => tf_of (w_Zj_eq x.1 x.2 _) (d_Zj x.1 x.2 _ (pp_Zj x.1 x.2 hx) (tt_Zj x.1 x.2 hx))
def C_Zp:Cons := [(50,[47],con_Zj)]
theorem hC_Zp:ConsOk Tryd.prog C_Zp := cC ok_Zj <| ConsOk.nil
def w_Zp (p0:gF) (_p1:PUnit) (K:Bool→Prop):Prop := ((lenOk p0) ∧(K (decide ((v_idx_Zj p0) ≥ 0))))
theorem w_Zp_eq (p0:gF) (p1:PUnit) (K:Bool→Prop):tfn F_Zp A_Zp C_Zp P_Zp R_Zp (p0,p1) K = w_Zp p0 p1 K := by kernel_rfl
def s_Zp (p0:gF) (_p1:PUnit):Bool := (decide ((v_idx_Zj p0) ≥ 0))
abbrev pre_Zp (p0:gF) (_p1:PUnit):List Prop := [(lenOk p0)]
theorem d_Zp (p0:gF) (p1:PUnit) (K:Bool→Prop) (hp:∀ p∈pre_Zp p0 p1,p) (h:K (s_Zp p0 p1)):w_Zp p0 p1 K := by
 unfold w_Zp
 unfold s_Zp at h
 obtain ⟨hp0,_⟩ := conj_of hp
 exact ⟨(hp0),h⟩
def v_any_Zp (p0:gF):Bool := p0.any s_Zu
abbrev t_Zp (p0:gF) (_p1:PUnit):Bool := v_any_Zp p0
abbrev qre_Zp (p0:gF) (_p1:PUnit):List Prop := [lenOk p0]
theorem pp_Zp (p0:gF) (p1:PUnit) (hq:∀ p∈qre_Zp p0 p1,p):∀ p∈pre_Zp p0 p1,p := by
 simpa only [pre_Zp] using hq
theorem tt_Zp (p0:gF) (p1:PUnit) (_hq:∀ p∈qre_Zp p0 p1,p):s_Zp p0 p1 = t_Zp p0 p1 := by
 unfold s_Zp t_Zp v_any_Zp
 exact v_scan_idx p0 0 (Int.le_refl 0)

abbrev con_Zp:Con := ⟨P_Zp,R_Zp,fun x => qre_Zp x.1 x.2,fun x => t_Zp x.1 x.2⟩
theorem ok_Zp:ConOk Tryd.prog 36 con_Zp := okG k_Zp e_Zp hC_Zp fun x hx => tf_of (w_Zp_eq x.1 x.2 _) (d_Zp x.1 x.2 _ (pp_Zp x.1 x.2 hx) (tt_Zp x.1 x.2 hx))
def C_Z7:Cons := []
theorem hC_Z7:ConsOk Tryd.prog C_Z7 := ConsOk.nil
def w_Z7 (p0:Bool) (p1:Int) (K:Int→Prop):Prop := (((p0 = true) →(K zz0)) ∧((p0 = false) →(K p1)))
theorem w_Z7_eq (p0:Bool) (p1:Int) (K:Int→Prop):tfn F_Z7 A_Z7 C_Z7 P_Z7 R_Z7 (p0,p1) K = w_Z7 p0 p1 K := by kernel_rfl
def s_Z7 (p0:Bool) (p1:Int):Int := (cond p0 (0:Int) p1)
abbrev pre_Z7 (_p0:Bool) (_p1:Int):List Prop := []
theorem d_Z7 (p0:Bool) (p1:Int) (K:Int→Prop) (_hp:∀ p∈pre_Z7 p0 p1,p) (h:K (s_Z7 p0 p1)):w_Z7 p0 p1 K := by
 unfold w_Z7
 unfold s_Z7 at h
 exact (br' h (fun e0 h => h)
  (fun e0 h => h))
abbrev con_Z7:Con := ⟨P_Z7,R_Z7,fun x => pre_Z7 x.1 x.2,fun x => s_Z7 x.1 x.2⟩
theorem ok_Z7:ConOk Tryd.prog 25 con_Z7 := okG k_Z7 e_Z7 hC_Z7 fun x hx => tf_of (w_Z7_eq x.1 x.2 _) (d_Z7 x.1 x.2 _ hx rfl)
theorem tx_unless0' {a:Bool} {x:Int} (hx:x ≠ 0) (h:s_Z7 a x = 0):a = true := by
 cases a
 ·exact (hx h).elim
 ·rfl
def C_Z8:Cons := []
theorem hC_Z8:ConsOk Tryd.prog C_Z8 := ConsOk.nil
def w_Z8 (p0:gF) (K:Int→Prop):Prop := (∃ n0,(loopP (fun (y1:Int) k2 => ((((decide (y1 < (p0.length:Int)))=true) →((zz0≤y1) ∧((y1 < (p0.length:Int)) ∧(((((p0.getD y1.toNat zz0) != 0)=true) →(K (p0.getD y1.toNat zz0))) ∧((((p0.getD y1.toNat zz0) != 0)=false) →(k2 (IntKind.i64.wrap (y1 + 1)))))))) ∧(((decide (y1 < (p0.length:Int)))=false) →(K zz0)))) n0 zz0))
theorem w_Z8_eq (p0:gF) (K:Int→Prop):tfn F_Z8 A_Z8 C_Z8 P_Z8 R_Z8 p0 K = w_Z8 p0 K := by kernel_rfl
def st_Z8_0 (p0:gF) (y0:Int):Int ⊕ Int := (cond (decide (y0 < (p0.length:Int))) (cond ((p0.getD y0.toNat (0:Int)) != 0) (Sum.inr (p0.getD y0.toNat (0:Int))) (Sum.inl (IntKind.i64.wrap (y0 + 1)))) (Sum.inr (0:Int)))
abbrev sp_Z8_0 (p0:gF) (y0:Int):List Prop := [(((decide (y0 < (p0.length:Int)))=true)→((0:Int)≤y0)),(((decide (y0 < (p0.length:Int)))=true)→(y0 < (p0.length:Int)))]
def s_Z8 (p0:gF):Int := (lpv (0:Int) (st_Z8_0 p0) (0:Int))
abbrev pre_Z8 (p0:gF):List Prop := [(OkL (st_Z8_0 p0) (sp_Z8_0 p0) (0:Int))]
theorem d_Z8 (p0:gF) (K:Int→Prop) (hp:∀ p∈pre_Z8 p0,p) (h:K (s_Z8 p0)):w_Z8 p0 K := by
 unfold w_Z8
 unfold s_Z8 at h
 obtain ⟨hp0,_⟩ := conj_of hp
 exact (loop_gen (hp0) h (fun y0 k0 hp h => by
 unfold st_Z8_0 at h; obtain ⟨hp0,hp1,_⟩ := conj_of hp
 exact (br' h (fun e1 h => ⟨(hp0 e1),(hp1 e1),(br' h (fun e2 h => h)
  (fun e2 h => h))⟩)
  (fun e1 h => h))))
theorem l_Z8_0 (p0:gF) (hl:lenOk p0):OkL (st_Z8_0 p0) (sp_Z8_0 p0) 0∧lpv (0:Int) (st_Z8_0 p0) 0 = v_scan (fun _ x => cond (x != 0) (some x) none) (0:Int) 0 p0 := by
 refine scan_is p0 0 (fun _ x => cond (x != 0) (some x) none) (0:Int) hl ?_ ?_
 ·refine ⟨by simp only [sp_Z8_0,fM,decide_eq_true_eq]; simp,by simp [st_Z8_0]⟩
 ·intro j hj
  have hj' : (j:Int) < p0.length := by omega
  refine ⟨by simp only [sp_Z8_0,fM,decide_eq_true_eq,Int.toNat_natCast]; simp <;> omega,?_⟩
  simp only [st_Z8_0,hj',decide_true,Int.toNat_natCast,cond_true,wrap_nat (show (j:Int)≤9223372036854775806 by unfold lenOk at hl; omega)]
  generalize p0.getD j 0 = x
  cases (x != 0) <;> rfl
abbrev t_Z8 (p0:gF):Int := v_first p0
abbrev qre_Z8 (p0:gF):List Prop := [lenOk p0]
theorem pp_Z8 (p0:gF) (hq:∀ p∈qre_Z8 p0,p):∀ p∈pre_Z8 p0,p := by
 simp only [pre_Z8,fM]
 exact ⟨(l_Z8_0 p0 (conj_of hq).1).1,by simp⟩
theorem tt_Z8 (p0:gF) (hq:∀ p∈qre_Z8 p0,p):s_Z8 p0 = t_Z8 p0 := by
 exact (l_Z8_0 p0 (conj_of hq).1).2.trans (v_first_scan p0 0)

abbrev con_Z8:Con := ⟨P_Z8,R_Z8,fun x => qre_Z8 x,fun x => t_Z8 x⟩
theorem ok_Z8:ConOk Tryd.prog 22 con_Z8 := okG k_Z8 e_Z8 hC_Z8 fun x hx => tf_of (w_Z8_eq x _) (d_Z8 x _ (pp_Z8 x hx) (tt_Z8 x hx))
def C_Z1c:Cons := []
theorem hC_Z1c:ConsOk Tryd.prog C_Z1c := ConsOk.nil
def w_Z1c (p0:gF) (K:(List Int)→Prop):Prop := (((p0.length = 0) →(K ([]:List Int))) ∧(((((List.length ([]:List Int)) + p0.length) * 8)≤140737488355328) ∧(K (([]:List Int) ++ p0))))
theorem w_Z1c_eq (p0:gF) (K:(List Int)→Prop):tfnO F_Z1c A_Z1c C_Z1c P_Z1c E_Z1c p0 K = w_Z1c p0 K := by kernel_rfl
def s_Z1c (p0:gF):List Int := p0
abbrev pre_Z1c (p0:gF):List Prop := [p0.length≤1000000]
theorem d_Z1c (p0:gF) (K:List Int→Prop) (hp:∀ p∈pre_Z1c p0,p) (h:K (s_Z1c p0)):w_Z1c p0 K := by
 have h1 := (conj_of hp).1
 refine ⟨fun e => ?_,by simp only [List.length_nil]; omega,h⟩
 have:p0 = [] := List.eq_nil_of_length_eq_zero e
 subst this; exact h

abbrev con_Z1c:Con := ⟨P_Z1c,[.one (.sl E_Z1c)],fun x => pre_Z1c x,fun x => s_Z1c x⟩
theorem ok_Z1c:ConOOk Tryd.prog 48 con_Z1c := conO_tf (e := E_Z1c) (ps := P_Z1c) k_Z1c e_Z1c hC_Z1c (fun x hx => tfo_of (w_Z1c_eq x (fun z => z = s_Z1c x)) (d_Z1c x (fun z => z = s_Z1c x) hx rfl))
def C_Zb:Cons := []
theorem hC_Zb:ConsOk Tryd.prog C_Zb := ConsOk.nil
def w_Zb (p0:gF) (K:(List Int)→Prop):Prop := (∃ n0,(loopP (fun (y1:(Int×(Int×(List Int)))) k2 => ((((decide (y1.2.1 < y1.1))=true) →((zz0≤y1.1) ∧((y1.1 < (y1.2.2.length:Int)) ∧((zz0≤y1.2.1) ∧((y1.2.1 < (y1.2.2.length:Int)) ∧((zz0≤y1.2.1) ∧((y1.2.1 < (y1.2.2.length:Int)) ∧((zz0≤y1.1) ∧((y1.1 < (((List.length (List.set y1.2.2 y1.2.1.toNat (y1.2.2.getD y1.1.toNat zz0))):Nat):Int)) ∧(k2 ((IntKind.i64.wrap (y1.1 - 1)),((IntKind.i64.wrap (y1.2.1 + 1)),(List.set (List.set y1.2.2 y1.2.1.toNat (y1.2.2.getD y1.1.toNat zz0)) y1.1.toNat (y1.2.2.getD y1.2.1.toNat zz0)))))))))))))) ∧(((decide (y1.2.1 < y1.1))=false) →(K y1.2.2)))) n0 ((IntKind.i64.wrap ((p0.length:Int) - 1)),(zz0,p0))))
theorem w_Zb_eq (p0:gF) (K:(List Int)→Prop):tfnN F_Zb A_Zb C_Zb 1 P_Zb R_Zb p0 K = w_Zb p0 K := by kernel_rfl
def st_Zb_0 (_p0:gF) (y0:(Int×(Int×(List Int)))):(Int×(Int×(List Int))) ⊕ (List Int) := (cond (decide (y0.2.1 < y0.1)) (Sum.inl ((IntKind.i64.wrap (y0.1 - 1)),((IntKind.i64.wrap (y0.2.1 + 1)),(List.set (List.set y0.2.2 y0.2.1.toNat (y0.2.2.getD y0.1.toNat (0:Int))) y0.1.toNat (y0.2.2.getD y0.2.1.toNat (0:Int)))))) (Sum.inr y0.2.2))
abbrev sp_Zb_0 (_p0:gF) (y0:(Int×(Int×(List Int)))):List Prop := [(((decide (y0.2.1 < y0.1))=true)→((0:Int)≤y0.1)),(((decide (y0.2.1 < y0.1))=true)→(y0.1 < (y0.2.2.length:Int))),(((decide (y0.2.1 < y0.1))=true)→((0:Int)≤y0.2.1)),(((decide (y0.2.1 < y0.1))=true)→(y0.2.1 < (y0.2.2.length:Int))),(((decide (y0.2.1 < y0.1))=true)→(y0.1 < (((List.length (List.set y0.2.2 y0.2.1.toNat (y0.2.2.getD y0.1.toNat (0:Int)))):Nat):Int)))]
def s_Zb (p0:gF):(List Int) := (lpv [] (st_Zb_0 p0) ((IntKind.i64.wrap ((p0.length:Int) - 1)),((0:Int),p0)))
abbrev pre_Zb (p0:gF):List Prop := [(OkL (st_Zb_0 p0) (sp_Zb_0 p0) ((IntKind.i64.wrap ((p0.length:Int) - 1)),((0:Int),p0)))]
theorem d_Zb (p0:gF) (K:(List Int)→Prop) (hp:∀ p∈pre_Zb p0,p) (h:K (s_Zb p0)):w_Zb p0 K := by
 unfold w_Zb
 unfold s_Zb at h
 obtain ⟨hp0,_⟩ := conj_of hp
 exact (loop_gen (hp0) h (fun y0 k0 hp h => by
 unfold st_Zb_0 at h; obtain ⟨hp0,hp1,hp2,hp3,hp4,_⟩ := conj_of hp
 exact (br' h (fun e1 h => ⟨(hp0 e1),(hp1 e1),(hp2 e1),(hp3 e1),(hp2 e1),(hp3 e1),(hp0 e1),(hp4 e1),h⟩)
  (fun e1 h => h))))
def v_rev (l:gF):List Int := l.reverse
theorem l_Zb (p0:gF) (h:p0.length≤1000000):OkL (st_Zb_0 p0) (sp_Zb_0 p0) ((IntKind.i64.wrap ((p0.length:Int) - 1)),((0:Int),p0))∧s_Zb p0 = p0.reverse := by
 unfold s_Zb
 rw [wrap_id (show -9223372036854775808≤(p0.length:Int) - 1 by omega) (by omega)]
 refine loop_is (fun y:Int×Int×List Int => ∃ i:Nat,y.2.1 = i∧y.1 = p0.length - 1 - i∧2 * i≤p0.length + 1∧y.2.2.length = p0.length∧∀ k,k < p0.length→y.2.2.getD k 0 = p0.getD (if k < i ∨ p0.length≤k + i then p0.length - 1 - k else k) 0) (fun y => (y.1 + 1).toNat) (fun _ => p0.reverse) ?_ ⟨0,rfl,by simp,by omega,rfl,fun k hk => by rw [if_neg (by omega)]⟩ (by unfold fuel; simp only; omega)
 rintro ⟨j,i',l⟩ ⟨i,h1,h2,h3,h4,h5⟩
 simp only at h1 h2 h4 h5
 subst h1
 by_cases c:(i:Int) < j
 ·obtain ⟨q,hq⟩ : ∃ q:Nat,j = q := ⟨j.toNat,by omega⟩
  subst hq
  refine ⟨by simp only [sp_Zb_0,fM,List.length_set]; exact ⟨fun _ => by omega,fun _ => by omega,fun _ => by omega,fun _ => by omega,fun _ => by omega,by simp⟩,?_⟩
  simp only [st_Zb_0,c,decide_true,cond_true,Int.toNat_natCast,wrap_nat (show (i:Int)≤9223372036854775806 by omega),wrap_id (show -9223372036854775808≤(q:Int) - 1 by omega) (show (q:Int) - 1≤9223372036854775807 by omega)]
  refine ⟨⟨i + 1,rfl,by omega,by omega,by simp [h4],fun k hk => ?_⟩,by omega,trivial⟩
  rw [gd_set (by simp; omega),gd_set (by omega)]
  by_cases k1:k = q
  ·rw [if_pos k1,h5 i (by omega),if_neg (by omega),if_pos (by omega)]
   congr 1; omega
  ·rw [if_neg k1]
   by_cases k2:k = i
   ·rw [if_pos k2,h5 q (by omega),if_neg (by omega),if_pos (by omega)]
    congr 1; omega
   ·rw [if_neg k2,h5 k hk]
    by_cases k3:k < i ∨ p0.length≤k + i
    ·rw [if_pos k3,if_pos (by omega)]
    ·rw [if_neg k3,if_neg (by omega)]
 ·refine ⟨by simp only [sp_Zb_0,fM,c,decide_false]; simp,?_⟩
  simp only [st_Zb_0,c,decide_false,cond_false]
  refine gd_ext 0 (by simp [h4]) fun k hk => ?_
  rw [List.length_reverse] at hk
  rw [gd_rev hk,h5 k hk]
  by_cases k3:k < i ∨ p0.length≤k + i
  ·rw [if_pos k3]
  ·rw [if_neg k3]; congr 1; omega
abbrev t_Zb (p0:gF):List Int := v_rev p0
abbrev qre_Zb (p0:gF):List Prop := [p0.length≤1000000]
theorem pp_Zb (p0:gF) (hq:∀ p∈qre_Zb p0,p):∀ p∈pre_Zb p0,p := by
 simp only [pre_Zb,fM]
 exact ⟨(l_Zb p0 (conj_of hq).1).1,by simp⟩
theorem tt_Zb (p0:gF) (hq:∀ p∈qre_Zb p0,p):s_Zb p0 = t_Zb p0 := by
 exact (l_Zb p0 (conj_of hq).1).2
theorem hl_Zb (p0:gF) (_:∀ p∈qre_Zb p0,p):((valPs R_Zb (t_Zb p0)).drop (R_Zb.length - 1)).map (fun v => (slEs v).length)=((valPs P_Zb p0).drop (P_Zb.length - 1)).map (fun v => (slEs v).length) := by
 simp [valPs,valP,slEs,Ty.enc,t_Zb,v_rev]

abbrev con_Zb:Con := ⟨P_Zb,R_Zb,fun x => qre_Zb x,fun x => t_Zb x⟩
theorem ok_Zb:ConNOk Tryd.prog 49 1 con_Zb := conN_tf k_Zb e_Zb hC_Zb con_Zb (by decide) (by decide) rfl rfl (fun x hx => tfN_of (w_Zb_eq x (fun z => z = t_Zb x)) (d_Zb x (fun z => z = t_Zb x) (pp_Zb x hx) (tt_Zb x hx))) (fun x hx => hl_Zb x hx)
def C_Z12:Cons := [(48,ownMark,con_Z1c),(49,nMark 1,con_Zb)]
theorem hC_Z12:ConsOk Tryd.prog C_Z12 := ConsOk.consO ok_Z1c <| ConsOk.consN ok_Zb <| ConsOk.nil
def w_Z12 (p0:gF) (K:(List Int)→Prop):Prop := ((p0.length≤1000000) ∧((0 < p0.length) ∧((p0.length≤1000000) ∧((zz0≤1) ∧((zz1≤(p0.length:Int)) ∧(((((List.length (v_rev p0)) + (List.length (List.drop (Int.toNat zz1) p0))) * 8)≤140737488355328) ∧(K ((v_rev p0) ++ (List.drop (Int.toNat zz1) p0)))))))))
theorem w_Z12_eq (p0:gF) (K:(List Int)→Prop):tfnO F_Z12 A_Z12 C_Z12 P_Z12 E_Z12 p0 K = w_Z12 p0 K := by kernel_rfl
def s_Z12 (p0:gF):(List Int) := ((v_rev p0) ++ (List.drop (Int.toNat (1:Int)) p0))
abbrev pre_Z12 (p0:gF):List Prop := [(p0.length≤1000000),(0 < p0.length),((1:Int)≤(p0.length:Int)),((((List.length (v_rev p0)) + (List.length (List.drop (Int.toNat (1:Int)) p0))) * 8)≤140737488355328)]
theorem d_Z12 (p0:gF) (K:(List Int)→Prop) (hp:∀ p∈pre_Z12 p0,p) (h:K (s_Z12 p0)):w_Z12 p0 K := by
 unfold w_Z12
 unfold s_Z12 at h
 obtain ⟨hp0,hp1,hp2,hp3,_⟩ := conj_of hp
 exact ⟨(hp0),(hp1),(hp0),(od rfl),(hp2),(hp3),h⟩
/-- The weight of a neighbour on either side,0 beyond the last one. -/
def v_at (f:gF) (k:Int):Int := f.getD k.natAbs 0
theorem v_at_out {f:List Int} {k:Int} (h:f.length≤k.natAbs):v_at f k = 0 := gd_out _ h
theorem v_at_in {f:List Int} {m:Int} (hm:0≤m) (h:∀ x∈f,-m≤x∧x≤m) (k:Int) : -m≤v_at f k∧v_at f k≤m := by
 by_cases c:k.natAbs < f.length
 ·exact h _ (getD_mem' 0 c)
 ·rw [v_at_out (by omega)]; omega
/-- The weights on both sides. -/
def v_both (f:gF):List Int := f.reverse ++ f.drop 1
theorem v_both_len {f:List Int} (h:1≤f.length):(v_both f).length = 2 * f.length - 1 := by simp [v_both]; omega
theorem v_both_at {f:List Int} {k:Nat} (_h:k < 2 * f.length - 1):(v_both f).getD k 0 = v_at f ((k:Int) - ((f.length:Int) - 1)) := by
 unfold v_both v_at
 rw [gd_app,List.length_reverse]
 by_cases c:k < f.length
 ·rw [if_pos c,gd_rev c]; congr 1; omega
 ·rw [if_neg c,gd_drop]; congr 1; omega
/-- Weights. -/
structure v_fw (f:gF):Prop where
 one:1≤f.length
 nine:f.length≤9
 all:∀ x∈f,-100000≤x∧x≤100000
theorem v_fw.at {f:List Int} (h:v_fw f) (k:Int) : -100000≤v_at f k∧v_at f k≤100000 := v_at_in (by decide) h.all k
/-- The sum of a filter. -/
def v_fsum (f:gF):Int := v_sums (fun j => v_at f ((j:Int) - ((f.length:Int) - 1))) 0 (2 * f.length - 1)
abbrev t_Z12 (p0:gF):List Int := v_both p0
abbrev qre_Z12 (p0:gF):List Prop := [1≤p0.length∧p0.length≤1000000]
theorem pp_Z12 (p0:gF) (hq:∀ p∈qre_Z12 p0,p):∀ p∈pre_Z12 p0,p := by
 have h := (conj_of hq).1
 simp only [pre_Z12,fM]
 exact ⟨h.2,by omega,by omega,by simp [v_rev]; omega,by simp⟩
theorem tt_Z12 (p0:gF) (_hq:∀ p∈qre_Z12 p0,p):s_Z12 p0 = t_Z12 p0 := by
 rfl

abbrev con_Z12:Con := ⟨P_Z12,[.one (.sl E_Z12)],fun x => qre_Z12 x,fun x => t_Z12 x⟩
theorem ok_Z12:ConOOk Tryd.prog 32 con_Z12 := conO_tf (e := E_Z12) (ps := P_Z12) k_Z12 e_Z12 hC_Z12 (fun x hx => tfo_of (w_Z12_eq x (fun z => z = t_Z12 x)) (d_Z12 x (fun z => z = t_Z12 x) (pp_Z12 x hx) (tt_Z12 x hx)))
def C_Zn:Cons := [(32,ownMark,con_Z12)]
theorem hC_Zn:ConsOk Tryd.prog C_Zn := ConsOk.consO ok_Z12 <| ConsOk.nil
def w_Zn (p0:gF) (K:Int→Prop):Prop := (((1≤p0.length) ∧(p0.length≤1000000)) ∧(∃ n0,(loopP (fun (y1:gG) k2 => ((((decide (y1.1 < (((v_both p0).length:Nat):Int)))=true) →((zz0≤y1.1) ∧((y1.1 < (((v_both p0).length:Nat):Int)) ∧(k2 ((IntKind.i64.wrap (y1.1 + 1)),(IntKind.i64.wrap (y1.2 + (List.getD (v_both p0) y1.1.toNat zz0)))))))) ∧(((decide (y1.1 < (((v_both p0).length:Nat):Int)))=false) →(K y1.2)))) n0 (zz0,zz0))))
theorem w_Zn_eq (p0:gF) (K:Int→Prop):tfn F_Zn A_Zn C_Zn P_Zn R_Zn p0 K = w_Zn p0 K := by kernel_rfl
def st_Zn_0 (p0:gF) (y0:gG):(Int×Int) ⊕ Int := (cond (decide (y0.1 < (((v_both p0).length:Nat):Int))) (Sum.inl ((IntKind.i64.wrap (y0.1 + 1)),(IntKind.i64.wrap (y0.2 + (List.getD (v_both p0) y0.1.toNat (0:Int)))))) (Sum.inr y0.2))
abbrev sp_Zn_0 (p0:gF) (y0:gG):List Prop := [(((decide (y0.1 < (((v_both p0).length:Nat):Int)))=true)→((0:Int)≤y0.1)),(((decide (y0.1 < (((v_both p0).length:Nat):Int)))=true)→(y0.1 < (((v_both p0).length:Nat):Int)))]
def s_Zn (p0:gF):Int := (lpv (0:Int) (st_Zn_0 p0) (0,0))
abbrev pre_Zn (p0:gF):List Prop := [((1≤p0.length)∧(p0.length≤1000000)),(OkL (st_Zn_0 p0) (sp_Zn_0 p0) (0,0))]
theorem d_Zn (p0:gF) (K:Int→Prop) (hp:∀ p∈pre_Zn p0,p) (h:K (s_Zn p0)):w_Zn p0 K := by
 unfold w_Zn
 unfold s_Zn at h
 obtain ⟨hp0,hp1,_⟩ := conj_of hp
 exact ⟨(hp0),(loop_gen (hp1) h (fun y0 k0 hp h => by
 unfold st_Zn_0 at h; obtain ⟨hp0,hp1,_⟩ := conj_of hp
 exact (br' h (fun e1 h => ⟨(hp0 e1),(hp1 e1),h⟩)
  (fun e1 h => h))))⟩
theorem l_Zn (p0:gF) (h:v_fw p0):OkL (st_Zn_0 p0) (sp_Zn_0 p0) (0,0)∧s_Zn p0 = v_fsum p0 := by
 have h1 := h.one
 have h2 := h.nine
 have hl := v_both_len h1
 refine for_is (fun i t => (i,t)) 0 (2 * p0.length - 1) (fun j t => t = v_sums (fun j => v_at p0 ((j:Int) - ((p0.length:Int) - 1))) 0 j) (fun _ _ => v_fsum p0) (by omega) (by omega) ?_ ?_ 0 rfl
 ·intro t ht
  have hd:decide (((2 * p0.length - 1:Nat):Int) < ((v_both p0).length:Nat))=false := decide_eq_false (by omega)
  refine ⟨by simp only [sp_Zn_0,fM,hd]; simp,?_⟩
  simp only [st_Zn_0,hd,cond_false]
  rw [ht]; rfl
 ·intro j t _ hj ht
  have hd:decide ((j:Int) < ((v_both p0).length:Nat))=true := decide_eq_true (by omega)
  refine ⟨by simp only [sp_Zn_0,fM,hd]; exact ⟨fun _ => by omega,fun _ => by omega,by simp⟩,.inl ⟨_,?_,rfl,rfl⟩⟩
  have hb := v_sums_in (f := fun j => v_at p0 ((j:Int) - ((p0.length:Int) - 1))) (m := 100000) j 0 (fun k _ _ => h.at _)
  have ha := h.at ((j:Int) - ((p0.length:Int) - 1))
  simp only [st_Zn_0,hd,cond_true,Int.toNat_natCast,wrap_nat (show (j:Int)≤9223372036854775806 by omega)]
  rw [v_both_at hj,ht,v_sums_last,Nat.zero_add,wrap_id (by omega) (by omega)]
abbrev t_Zn (p0:gF):Int := v_fsum p0
abbrev qre_Zn (p0:gF):List Prop := [v_fw p0]
theorem pp_Zn (p0:gF) (hq:∀ p∈qre_Zn p0,p):∀ p∈pre_Zn p0,p := by
 have h := (conj_of hq).1
 have h1 := h.one
 have h2 := h.nine
 simp only [pre_Zn,fM]
 exact ⟨by omega,(l_Zn p0 h).1,by simp⟩
theorem tt_Zn (p0:gF) (hq:∀ p∈qre_Zn p0,p):s_Zn p0 = t_Zn p0 := by
 exact (l_Zn p0 (conj_of hq).1).2

abbrev con_Zn:Con := ⟨P_Zn,R_Zn,fun x => qre_Zn x,fun x => t_Zn x⟩
theorem ok_Zn:ConOk Tryd.prog 33 con_Zn := okG k_Zn e_Zn hC_Zn fun x hx => tf_of (w_Zn_eq x _) (d_Zn x _ (pp_Zn x hx) (tt_Zn x hx))
def C_Zt:Cons := [(36,[47],con_Zp),(25,[],con_Z7),(22,[],con_Z8),(33,[],con_Zn)]
theorem hC_Zt:ConsOk Tryd.prog C_Zt := cC ok_Zp <| cC ok_Z7 <| cC ok_Z8 <| cC ok_Zn <| ConsOk.nil
abbrev q0_Zt (p0:gF) := ((s_Z7 (decide ((p0.length:Int) > zz0)) (10:Int)) :: ((s_Z7 (decide ((p0.length:Int)≤9)) (8:Int)) :: ((s_Z7 (!(v_any_Zp p0)) zz2) :: ([]:List Int))))
def w_Zt (p0:gF) (K:Int→Prop):Prop := ((lenOk p0) ∧((lenOk (q0_Zt p0)) ∧(((((v_first (q0_Zt p0)) != zz0)=true) →(K (v_first (q0_Zt p0)))) ∧((((v_first (q0_Zt p0)) != zz0)=false) →((v_fw p0) ∧(K (s_Z7 (decide ((v_fsum p0) > zz0)) (11:Int))))))))
theorem w_Zt_eq (p0:gF) (K:Int→Prop):tfn F_Zt A_Zt C_Zt P_Zt R_Zt p0 K = w_Zt p0 K := by kernel_rfl
def s_Zt (p0:gF):Int := (cond ((v_first ((s_Z7 (decide ((p0.length:Int) > 0)) (10:Int)) :: ((s_Z7 (decide ((p0.length:Int)≤9)) (8:Int)) :: ((s_Z7 (!(v_any_Zp p0)) (2:Int)) :: ([]:List Int))))) != 0) (v_first ((s_Z7 (decide ((p0.length:Int) > 0)) (10:Int)) :: ((s_Z7 (decide ((p0.length:Int)≤9)) (8:Int)) :: ((s_Z7 (!(v_any_Zp p0)) (2:Int)) :: ([]:List Int))))) (s_Z7 (decide ((v_fsum p0) > 0)) (11:Int)))
abbrev pre_Zt (p0:gF):List Prop := [(lenOk p0),((((v_first ((s_Z7 (decide ((p0.length:Int) > 0)) (10:Int)) :: ((s_Z7 (decide ((p0.length:Int)≤9)) (8:Int)) :: ((s_Z7 (!(v_any_Zp p0)) (2:Int)) :: ([]:List Int))))) != 0)=false)→(v_fw p0))]
theorem d_Zt (p0:gF) (K:Int→Prop) (hp:∀ p∈pre_Zt p0,p) (h:K (s_Zt p0)):w_Zt p0 K := by
 unfold w_Zt
 unfold s_Zt at h
 obtain ⟨hp0,hp1,_⟩ := conj_of hp
 exact ⟨(hp0),(lenOk_of 3 rfl (by decide)),(br' h (fun e0 h => h)
  (fun e0 h => ⟨(hp1 e0),h⟩))⟩
/-- The errors of weights alone. -/
def v_fw0 (p0:gF):Int := v_first [s_Z7 (decide ((p0.length:Int) > 0)) 10,s_Z7 (decide ((p0.length:Int)≤9)) 8,s_Z7 (!(v_any_Zp p0)) 2]
/-- The error of a filter. -/
def v_filerr (p0:gF):Int := cond (v_fw0 p0 != 0) (v_fw0 p0) (s_Z7 (decide (v_fsum p0 > 0)) 11)
theorem tx_sized {x:Int}:s_Z9 x 100000 = true ↔ -100000≤x∧x≤100000 := by
 unfold s_Z9
 rw [show IntKind.i64.wrap (0 - 100000) = -100000 from rfl]
 exact tx_within
theorem tx_fw {p0:List Int} (h:v_fw0 p0 = 0):v_fw p0 := by
 obtain ⟨h1,h⟩ := v_first0 h
 obtain ⟨h2,h⟩ := v_first0 h
 obtain ⟨h3,_⟩ := v_first0 h
 have g1 := of_decide_eq_true (tx_unless0' (by decide) h1)
 have g2 := of_decide_eq_true (tx_unless0' (by decide) h2)
 have g3 := tx_unless0' (by decide) h3
 refine ⟨by omega,by omega,fun x hx => ?_⟩
 have:p0.any s_Zu = false := by simpa [v_any_Zp] using g3
 have := List.any_eq_false.1 this x hx
 exact tx_sized.1 (by simpa [s_Zu] using this)
/-- A valid filter. -/
structure v_fok (f:gF):Prop extends v_fw f where
 pos:0 < v_fsum f
theorem tx_fok {p0:List Int} (h:v_filerr p0 = 0):v_fok p0 := by
 unfold v_filerr at h
 rcases int0 (v_fw0 p0) with ⟨b1,b2,b3⟩ | ⟨b1,b2,b3⟩
 ·rw [b2] at h
  exact ⟨tx_fw b1,of_decide_eq_true (tx_unless0' (by decide) h)⟩
 ·rw [b2] at h; exact absurd h b1
abbrev t_Zt (p0:gF):Int := v_filerr p0
abbrev qre_Zt (p0:gF):List Prop := [lenOk p0]
theorem pp_Zt (p0:gF) (hq:∀ p∈qre_Zt p0,p):∀ p∈pre_Zt p0,p := by
 simp only [pre_Zt,fM]
 exact ⟨(conj_of hq).1,fun h => tx_fw (bne0' h),by simp⟩
theorem tt_Zt (p0:gF) (_:∀ p∈qre_Zt p0,p):s_Zt p0 = t_Zt p0 := rfl

abbrev con_Zt:Con := ⟨P_Zt,R_Zt,fun x => qre_Zt x,fun x => t_Zt x⟩
theorem ok_Zt:ConOk Tryd.prog 31 con_Zt := okG k_Zt e_Zt hC_Zt fun x hx => tf_of (w_Zt_eq x _) (d_Zt x _ (pp_Zt x hx) (tt_Zt x hx))
def C_Zx:Cons := []
theorem hC_Zx:ConsOk Tryd.prog C_Zx := ConsOk.nil
def w_Zx (p0:Int) (p1:Int) (K:Int→Prop):Prop := ((p1 ≠ zz0) ∧((((decide ((Int.tmod p0 p1) < 0))=true) →(K (IntKind.i64.wrap ((Int.tmod p0 p1) + p1)))) ∧(((decide ((Int.tmod p0 p1) < 0))=false) →(K (Int.tmod p0 p1)))))
theorem w_Zx_eq (p0:Int) (p1:Int) (K:Int→Prop):tfn F_Zx A_Zx C_Zx P_Zx R_Zx (p0,p1) K = w_Zx p0 p1 K := by kernel_rfl
def s_Zx (p0:Int) (p1:Int):Int := (cond (decide ((Int.tmod p0 p1) < 0)) (IntKind.i64.wrap ((Int.tmod p0 p1) + p1)) (Int.tmod p0 p1))
abbrev pre_Zx (_p0:Int) (p1:Int):List Prop := [(p1 ≠ (0:Int))]
theorem d_Zx (p0:Int) (p1:Int) (K:Int→Prop) (hp:∀ p∈pre_Zx p0 p1,p) (h:K (s_Zx p0 p1)):w_Zx p0 p1 K := by
 unfold w_Zx
 unfold s_Zx at h
 obtain ⟨hp0,_⟩ := conj_of hp
 exact ⟨(hp0),(br' h (fun e0 h => h)
  (fun e0 h => h))⟩
abbrev t_Zx (p0 p1:Int):Int := p0 % p1
abbrev qre_Zx (_p0 p1:Int):List Prop := [0 < p1∧p1≤1000000000000]
theorem pp_Zx (p0 p1:Int) (hq:∀ p∈qre_Zx p0 p1,p):∀ p∈pre_Zx p0 p1,p := by
 have h := (conj_of hq).1
 simp only [pre_Zx,fM]
 exact ⟨by omega,by simp⟩
theorem tt_Zx (p0 p1:Int) (hq:∀ p∈qre_Zx p0 p1,p):s_Zx p0 p1 = t_Zx p0 p1 := by
 have h := (conj_of hq).1
 unfold s_Zx t_Zx
 have h1 := v_tmod_lt (a := p0) (b := p1) (by omega)
 have h2 := Int.mul_tdiv_add_tmod p0 p1
 cases c:decide (p0.tmod p1 < 0)
 ·have := of_decide_eq_false c
  simp only [cond_false]
  exact ((Int.ediv_emod_unique (a := p0) (b := p1) (q := p0.tdiv p1) (r := p0.tmod p1) h.1).2 ⟨by omega,by omega,by omega⟩).2.symm
 ·have := of_decide_eq_true c
  simp only [cond_true]
  rw [wrap_id (by omega) (by omega)]
  have e:p1 * (p0.tdiv p1 - 1)=p1 * p0.tdiv p1 - p1 := by rw [Int.mul_sub,Int.mul_one]
  exact ((Int.ediv_emod_unique (a := p0) (b := p1) (q := p0.tdiv p1 - 1) (r := p0.tmod p1 + p1) h.1).2 ⟨by omega,by omega,by omega⟩).2.symm

abbrev con_Zx:Con := ⟨P_Zx,R_Zx,fun x => qre_Zx x.1 x.2,fun x => t_Zx x.1 x.2⟩
theorem ok_Zx:ConOk Tryd.prog 54 con_Zx := okG k_Zx e_Zx hC_Zx fun x hx => tf_of (w_Zx_eq x.1 x.2 _) (d_Zx x.1 x.2 _ (pp_Zx x.1 x.2 hx) (tt_Zx x.1 x.2 hx))
def C_Z14:Cons := []
theorem hC_Z14:ConsOk Tryd.prog C_Z14 := ConsOk.nil
def w_Z14 (p0:Int) (K:Int→Prop):Prop := (K (max p0 (IntKind.i64.wrap (zz0 - p0))))
theorem w_Z14_eq (p0:Int) (K:Int→Prop):tfn F_Z14 A_Z14 C_Z14 P_Z14 R_Z14 p0 K = w_Z14 p0 K := by kernel_rfl
def s_Z14 (p0:Int):Int := (max p0 (IntKind.i64.wrap ((0:Int) - p0)))
abbrev pre_Z14 (_p0:Int):List Prop := []
theorem d_Z14 (p0:Int) (K:Int→Prop) (_hp:∀ p∈pre_Z14 p0,p) (h:K (s_Z14 p0)):w_Z14 p0 K := by
 unfold w_Z14
 unfold s_Z14 at h
 exact h
abbrev con_Z14:Con := ⟨P_Z14,R_Z14,fun x => pre_Z14 x,fun x => s_Z14 x⟩
theorem ok_Z14:ConOk Tryd.prog 59 con_Z14 := okG k_Z14 e_Z14 hC_Z14 fun x hx => tf_of (w_Z14_eq x _) (d_Z14 x _ hx rfl)
def C_Zy:Cons := [(59,[],con_Z14)]
theorem hC_Zy:ConsOk Tryd.prog C_Zy := cC ok_Z14 <| ConsOk.nil
def w_Zy (p0:gF) (p1:Int) (K:Int→Prop):Prop := ((((decide ((s_Z14 p1) < (p0.length:Int)))=true) →((zz0≤(s_Z14 p1)) ∧(((s_Z14 p1) < (p0.length:Int)) ∧(K (p0.getD (Int.toNat (s_Z14 p1)) zz0))))) ∧(((decide ((s_Z14 p1) < (p0.length:Int)))=false) →(K zz0)))
theorem w_Zy_eq (p0:gF) (p1:Int) (K:Int→Prop):tfn F_Zy A_Zy C_Zy P_Zy R_Zy (p0,p1) K = w_Zy p0 p1 K := by kernel_rfl
def s_Zy (p0:gF) (p1:Int):Int := (cond (decide ((s_Z14 p1) < (p0.length:Int))) (p0.getD (Int.toNat (s_Z14 p1)) (0:Int)) (0:Int))
abbrev pre_Zy (p0:gF) (p1:Int):List Prop := [(((decide ((s_Z14 p1) < (p0.length:Int)))=true)→((0:Int)≤(s_Z14 p1))),(((decide ((s_Z14 p1) < (p0.length:Int)))=true)→((s_Z14 p1) < (p0.length:Int)))]
theorem d_Zy (p0:gF) (p1:Int) (K:Int→Prop) (hp:∀ p∈pre_Zy p0 p1,p) (h:K (s_Zy p0 p1)):w_Zy p0 p1 K := by
 unfold w_Zy
 unfold s_Zy at h
 obtain ⟨hp0,hp1,_⟩ := conj_of hp
 exact (br' h (fun e0 h => ⟨(hp0 e0),(hp1 e0),h⟩)
  (fun e0 h => h))
theorem tx_size {x:Int} (h:v_fit x):s_Z14 x = x.natAbs := by
 unfold s_Z14
 unfold v_fit at h
 rw [wrap_id (by omega) (by omega)]; omega
abbrev t_Zy (p0:gF) (p1:Int):Int := v_at p0 p1
abbrev qre_Zy (_p0:gF) (p1:Int):List Prop := [v_fit p1]
theorem pp_Zy (p0:gF) (p1:Int) (hq:∀ p∈qre_Zy p0 p1,p):∀ p∈pre_Zy p0 p1,p := by
 have h := (conj_of hq).1
 have e := tx_size h
 simp only [pre_Zy,fM,e]
 exact ⟨fun _ => by omega,fun h => of_decide_eq_true h,by simp⟩
theorem tt_Zy (p0:gF) (p1:Int) (hq:∀ p∈qre_Zy p0 p1,p):s_Zy p0 p1 = t_Zy p0 p1 := by
 have e := tx_size (conj_of hq).1
 unfold s_Zy t_Zy v_at
 rw [e,Int.toNat_natCast]
 by_cases c:p1.natAbs < p0.length
 ·rw [decide_eq_true (show (p1.natAbs:Int) < (p0.length:Nat) by omega)]; rfl
 ·rw [decide_eq_false (show ¬ (p1.natAbs:Int) < (p0.length:Nat) by omega),gd_out _ (by omega)]; rfl

abbrev con_Zy:Con := ⟨P_Zy,R_Zy,fun x => qre_Zy x.1 x.2,fun x => t_Zy x.1 x.2⟩
theorem ok_Zy:ConOk Tryd.prog 55 con_Zy := okG k_Zy e_Zy hC_Zy fun x hx => tf_of (w_Zy_eq x.1 x.2 _) (d_Zy x.1 x.2 _ (pp_Zy x.1 x.2 hx) (tt_Zy x.1 x.2 hx))
def C_Zo:Cons := [(54,[],con_Zx),(55,[],con_Zy)]
theorem hC_Zo:ConsOk Tryd.prog C_Zo := cC ok_Zx <| cC ok_Zy <| ConsOk.nil
def w_Zo (p0:gF) (p1:Int) (K:Int→Prop):Prop := (∃ n0,(loopP (fun (y1:gG) k2 => ((((decide (y1.1 < (p0.length:Int)))=true) →(((zz0 < 4) ∧((4:Int)≤1000000000000)) ∧((zz0≤((IntKind.i64.wrap (y1.1 * p1)) % (4:Int))) ∧((((IntKind.i64.wrap (y1.1 * p1)) % (4:Int)) < (((List.length (zz1 :: (zz0 :: ((-1:Int) :: (zz0 :: ([]:List Int)))))):Nat):Int)) ∧((v_fit y1.1) ∧(k2 ((IntKind.i64.wrap (y1.1 + 1)),(IntKind.i64.wrap (y1.2 + (IntKind.i64.wrap ((List.getD (zz1 :: (zz0 :: ((-1:Int) :: (zz0 :: ([]:List Int))))) (Int.toNat ((IntKind.i64.wrap (y1.1 * p1)) % (4:Int))) zz0) * (v_at p0 y1.1)))))))))))) ∧(((decide (y1.1 < (p0.length:Int)))=false) →(K y1.2)))) n0 ((IntKind.i64.wrap ((IntKind.i64.wrap (zz0 - (p0.length:Int))) + 1)),zz0)))
theorem w_Zo_eq (p0:gF) (p1:Int) (K:Int→Prop):tfn F_Zo A_Zo C_Zo P_Zo R_Zo (p0,p1) K = w_Zo p0 p1 K := by kernel_rfl
def st_Zo_0 (p0:gF) (p1:Int) (y0:gG):(Int×Int) ⊕ Int := (cond (decide (y0.1 < (p0.length:Int))) (Sum.inl ((IntKind.i64.wrap (y0.1 + 1)),(IntKind.i64.wrap (y0.2 + (IntKind.i64.wrap ((List.getD ((1:Int) :: ((0:Int) :: ((-1:Int) :: ((0:Int) :: ([]:List Int))))) (Int.toNat ((IntKind.i64.wrap (y0.1 * p1)) % (4:Int))) (0:Int)) * (v_at p0 y0.1))))))) (Sum.inr y0.2))
abbrev sp_Zo_0 (p0:gF) (p1:Int) (y0:gG):List Prop := [(((decide (y0.1 < (p0.length:Int)))=true)→((0:Int)≤((IntKind.i64.wrap (y0.1 * p1)) % (4:Int)))),(((decide (y0.1 < (p0.length:Int)))=true)→(((IntKind.i64.wrap (y0.1 * p1)) % (4:Int)) < (((List.length ((1:Int) :: ((0:Int) :: ((-1:Int) :: ((0:Int) :: ([]:List Int)))))):Nat):Int))),(((decide (y0.1 < (p0.length:Int)))=true)→(v_fit y0.1))]
def s_Zo (p0:gF) (p1:Int):Int := (lpv (0:Int) (st_Zo_0 p0 p1) ((IntKind.i64.wrap ((IntKind.i64.wrap ((0:Int) - (p0.length:Int))) + 1)),(0:Int)))
abbrev pre_Zo (p0:gF) (p1:Int):List Prop := [(OkL (st_Zo_0 p0 p1) (sp_Zo_0 p0 p1) ((IntKind.i64.wrap ((IntKind.i64.wrap ((0:Int) - (p0.length:Int))) + 1)),(0:Int)))]
theorem d_Zo (p0:gF) (p1:Int) (K:Int→Prop) (hp:∀ p∈pre_Zo p0 p1,p) (h:K (s_Zo p0 p1)):w_Zo p0 p1 K := by
 unfold w_Zo
 unfold s_Zo at h
 obtain ⟨hp0,_⟩ := conj_of hp
 exact (loop_gen (hp0) h (fun y0 k0 hp h => by
 unfold st_Zo_0 at h; obtain ⟨hp0,hp1,hp2,_⟩ := conj_of hp
 exact (br' h (fun e1 h => ⟨(od rfl),(hp0 e1),(hp1 e1),(hp2 e1),h⟩)
  (fun e1 h => h))))
/-- The cosine of whole quarters. -/
def v_cos (x:Int):Int := [1,0,-1,0].getD (x % 4).toNat 0
theorem v_cos_in (x:Int):(v_cos x = 1 ∨ v_cos x = 0 ∨ v_cos x = -1) := by
 unfold v_cos
 have h1 := Int.emod_nonneg x (show (4:Int) ≠ 0 by decide)
 have h2 := Int.emod_lt_of_pos x (show (0:Int) < 4 by decide)
 generalize x % 4 = y at *
 have:y = 0 ∨ y = 1 ∨ y = 2 ∨ y = 3 := by omega
 rcases this with rfl | rfl | rfl | rfl <;> decide
/-- The gain of a filter at a quarter. -/
def v_gain (f:gF) (q:Int):Int := v_sums (fun j => v_cos (((j:Int) - ((f.length:Int) - 1)) * q) * v_at f ((j:Int) - ((f.length:Int) - 1))) 0 (2 * f.length - 1)
theorem v_gain0 (f:gF):v_gain f 0 = v_fsum f := by
 unfold v_gain v_fsum
 refine v_sums_congr _ _ fun k _ _ => ?_
 rw [Int.mul_zero]
 show 1 * _ = _
 rw [Int.one_mul]
theorem v_cos_at {f:List Int} (h:v_fw f) (x k:Int) : -100000≤v_cos x * v_at f k∧v_cos x * v_at f k≤100000 := by
 have := h.at k
 rcases v_cos_in x with e | e | e <;> rw [e] <;> omega
theorem l_Zo (p0:gF) (p1:Int) (h:v_fw p0) (hq:0≤p1∧p1≤3):OkL (st_Zo_0 p0 p1) (sp_Zo_0 p0 p1) ((IntKind.i64.wrap ((IntKind.i64.wrap ((0:Int) - (p0.length:Int))) + 1)),(0:Int))∧s_Zo p0 p1 = v_gain p0 p1 := by
 have h1 := h.one
 have h2 := h.nine
 unfold s_Zo
 rw [wrap_id (show -9223372036854775808≤0 - ((p0.length:Nat):Int) by omega) (by omega),wrap_id (show -9223372036854775808≤0 - ((p0.length:Nat):Int) + 1 by omega) (by omega),show (0:Int) - ((p0.length:Nat):Int) + 1 = ((0:Nat):Int) - ((p0.length:Int) - 1) by omega]
 refine for_is (fun i t => (i - ((p0.length:Int) - 1),t)) 0 (2 * p0.length - 1) (fun j t => t = v_sums (fun j => v_cos (((j:Int) - ((p0.length:Int) - 1)) * p1) * v_at p0 ((j:Int) - ((p0.length:Int) - 1))) 0 j) (fun _ _ => v_gain p0 p1) (by omega) (by omega) ?_ ?_ 0 rfl
 ·intro t ht
  have hd:decide (((2 * p0.length - 1:Nat):Int) - ((p0.length:Int) - 1) < (p0.length:Nat))=false := decide_eq_false (by omega)
  refine ⟨by simp only [sp_Zo_0,fM,hd]; simp,?_⟩
  simp only [st_Zo_0,hd,cond_false]
  rw [ht]; rfl
 ·intro j t _ hj ht
  have hd:decide ((j:Int) - ((p0.length:Int) - 1) < (p0.length:Nat))=true := decide_eq_true (by omega)
  have hp : -100≤((j:Int) - ((p0.length:Int) - 1)) * p1∧((j:Int) - ((p0.length:Int) - 1)) * p1≤100 := by
   have:p1 = 0 ∨ p1 = 1 ∨ p1 = 2 ∨ p1 = 3 := by omega
   rcases this with rfl | rfl | rfl | rfl <;> omega
  have hw:IntKind.i64.wrap (((j:Int) - ((p0.length:Int) - 1)) * p1)=((j:Int) - ((p0.length:Int) - 1)) * p1 := wrap_id (by omega) (by omega)
  have m1 := Int.emod_nonneg (((j:Int) - ((p0.length:Int) - 1)) * p1) (show (4:Int) ≠ 0 by decide)
  have m2 := Int.emod_lt_of_pos (((j:Int) - ((p0.length:Int) - 1)) * p1) (show (0:Int) < 4 by decide)
  refine ⟨?_,.inl ⟨_,?_,rfl,rfl⟩⟩
  ·simp only [sp_Zo_0,fM,hw]
   exact ⟨fun _ => m1,fun _ => by simp only [List.length_cons,List.length_nil]; omega,fun _ => by unfold v_fit; omega,by simp⟩
  ·have hb := v_sums_in (f := fun j => v_cos (((j:Int) - ((p0.length:Int) - 1)) * p1) * v_at p0 ((j:Int) - ((p0.length:Int) - 1))) (m := 100000) j 0 (fun k _ _ => v_cos_at h _ _)
   have ha := v_cos_at h (((j:Int) - ((p0.length:Int) - 1)) * p1) ((j:Int) - ((p0.length:Int) - 1))
   simp only [st_Zo_0,hd,cond_true,hw]
   rw [show (List.getD [1,0,-1,0] (((j:Int) - ((p0.length:Int) - 1)) * p1 % 4).toNat 0)=v_cos (((j:Int) - ((p0.length:Int) - 1)) * p1) from rfl,wrap_id (show -9223372036854775808≤v_cos (((j:Int) - ((p0.length:Int) - 1)) * p1) * v_at p0 ((j:Int) - ((p0.length:Int) - 1)) by omega) (by omega),ht,v_sums_last,Nat.zero_add,wrap_id (by omega) (by omega),wrap_id (by omega) (by omega),show (j:Int) - ((p0.length:Int) - 1) + 1 = ((j + 1:Nat):Int) - ((p0.length:Int) - 1) by omega]
abbrev t_Zo (p0:gF) (p1:Int):Int := v_gain p0 p1
abbrev qre_Zo (p0:gF) (p1:Int):List Prop := [v_fw p0,0≤p1∧p1≤3]
theorem pp_Zo (p0:gF) (p1:Int) (hq:∀ p∈qre_Zo p0 p1,p):∀ p∈pre_Zo p0 p1,p := by
 simp only [pre_Zo,fM]
 exact ⟨(l_Zo p0 p1 (conj_of hq).1 (conj_of hq).2.1).1,by simp⟩
theorem tt_Zo (p0:gF) (p1:Int) (hq:∀ p∈qre_Zo p0 p1,p):s_Zo p0 p1 = t_Zo p0 p1 := (l_Zo p0 p1 (conj_of hq).1 (conj_of hq).2.1).2

abbrev con_Zo:Con := ⟨P_Zo,R_Zo,fun x => qre_Zo x.1 x.2,fun x => t_Zo x.1 x.2⟩
theorem ok_Zo:ConOk Tryd.prog 41 con_Zo := okG k_Zo e_Zo hC_Zo fun x hx => tf_of (w_Zo_eq x.1 x.2 _) (d_Zo x.1 x.2 _ (pp_Zo x.1 x.2 hx) (tt_Zo x.1 x.2 hx))
def C_Z16:Cons := [(41,[],con_Zo)]
theorem hC_Z16:ConsOk Tryd.prog C_Z16 := cC ok_Zo <| ConsOk.nil
def w_Z16 (p0:gF) (K:Int→Prop):Prop := ((v_fw p0) ∧(((zz0≤0) ∧(zz0≤3)) ∧(K (v_gain p0 zz0))))
theorem w_Z16_eq (p0:gF) (K:Int→Prop):tfn F_Z16 A_Z16 C_Z16 P_Z16 R_Z16 p0 K = w_Z16 p0 K := by kernel_rfl
def s_Z16 (p0:gF):Int := (v_gain p0 (0:Int))
abbrev pre_Z16 (p0:gF):List Prop := [(v_fw p0)]
theorem d_Z16 (p0:gF) (K:Int→Prop) (hp:∀ p∈pre_Z16 p0,p) (h:K (s_Z16 p0)):w_Z16 p0 K := by
 unfold w_Z16
 unfold s_Z16 at h
 obtain ⟨hp0,_⟩ := conj_of hp
 exact ⟨(hp0),(od rfl),h⟩
abbrev t_Z16 (p0:gF):Int := v_fsum p0
abbrev qre_Z16 (p0:gF):List Prop := [v_fw p0]
theorem pp_Z16 (p0:gF) (hq:∀ p∈qre_Z16 p0,p):∀ p∈pre_Z16 p0,p := by
 simp only [pre_Z16,fM]
 exact ⟨(conj_of hq).1,by simp⟩
theorem tt_Z16 (p0:gF) (_:∀ p∈qre_Z16 p0,p):s_Z16 p0 = t_Z16 p0 := v_gain0 p0

abbrev con_Z16:Con := ⟨P_Z16,R_Z16,fun x => qre_Z16 x,fun x => t_Z16 x⟩
theorem ok_Z16:ConOk Tryd.prog 21 con_Z16 := okG k_Z16 e_Z16 hC_Z16 fun x hx => tf_of (w_Z16_eq x _) (d_Z16 x _ (pp_Z16 x hx) (tt_Z16 x hx))
def C_Zk:Cons := [(5,[],con_Z6),(21,[],con_Z16)]
theorem hC_Zk:ConsOk Tryd.prog C_Zk := cC ok_Z6 <| cC ok_Z16 <| ConsOk.nil
def w_Zk (p0:gF) (K:Int→Prop):Prop := (((((p0.length:Int) == 0)=true) →(K (10:Int))) ∧((((p0.length:Int) == 0)=false) →((((decide ((p0.length:Int) > 9))=true) →(K (8:Int))) ∧(((decide ((p0.length:Int) > 9))=false) →(∃ n0,(loopP (fun (y1:Int) k2 => ((((decide (y1 < (p0.length:Int)))=true) →((zz0≤y1) ∧((y1 < (p0.length:Int)) ∧((((!(s_Z6 (p0.getD y1.toNat zz0) (-100000:Int) (100000:Int)))=true) →(K (2:Int))) ∧(((!(s_Z6 (p0.getD y1.toNat zz0) (-100000:Int) (100000:Int)))=false) →(k2 (IntKind.i64.wrap (y1 + 1)))))))) ∧(((decide (y1 < (p0.length:Int)))=false) →((v_fw p0) ∧((((decide ((v_fsum p0) < 1))=true) →(K (11:Int))) ∧(((decide ((v_fsum p0) < 1))=false) →(K zz0))))))) n0 zz0))))))
theorem w_Zk_eq (p0:gF) (K:Int→Prop):tfn F_Zk A_Zk C_Zk P_Zk R_Zk p0 K = w_Zk p0 K := by kernel_rfl
def st_Zk_0 (p0:gF) (y2:Int):Int ⊕ Int := (cond (decide (y2 < (p0.length:Int))) (cond (!(s_Z6 (p0.getD y2.toNat (0:Int)) (-100000:Int) (100000:Int))) (Sum.inr (2:Int)) (Sum.inl (IntKind.i64.wrap (y2 + 1)))) (cond (decide ((v_fsum p0) < 1)) (Sum.inr (11:Int)) (Sum.inr (0:Int))))
abbrev sp_Zk_0 (p0:gF) (y2:Int):List Prop := [(((decide (y2 < (p0.length:Int)))=true)→((0:Int)≤y2)),(((decide (y2 < (p0.length:Int)))=true)→(y2 < (p0.length:Int))),(((decide (y2 < (p0.length:Int)))=false)→(v_fw p0))]
def s_Zk (p0:gF):Int := (cond ((p0.length:Int) == 0) (10:Int) (cond (decide ((p0.length:Int) > 9)) (8:Int) (lpv (0:Int) (st_Zk_0 p0) (0:Int))))
abbrev pre_Zk (p0:gF):List Prop := [((((p0.length:Int) == 0)=false)→(((decide ((p0.length:Int) > 9))=false)→(OkL (st_Zk_0 p0) (sp_Zk_0 p0) (0:Int))))]
theorem d_Zk (p0:gF) (K:Int→Prop) (hp:∀ p∈pre_Zk p0,p) (h:K (s_Zk p0)):w_Zk p0 K := by
 unfold w_Zk
 unfold s_Zk at h
 obtain ⟨hp0,_⟩ := conj_of hp
 exact (br' h (fun e0 h => h)
  (fun e0 h => (br' h (fun e1 h => h)
  (fun e1 h => (loop_gen (hp0 e0 e1) h (fun y2 k2 hp h => by
 unfold st_Zk_0 at h; obtain ⟨hp0,hp1,hp2,_⟩ := conj_of hp
 exact (br' h (fun e3 h => ⟨(hp0 e3),(hp1 e3),(br' h (fun e4 h => h)
  (fun e4 h => h))⟩)
  (fun e3 h => ⟨(hp2 e3),(br' h (fun e5 h => h)
  (fun e5 h => h))⟩))))))))
theorem tx_filerr {p0:List Int} (h1:1≤p0.length) (h9:p0.length≤9):v_filerr p0 = cond (v_any_Zp p0) 2 (s_Z7 (decide (v_fsum p0 > 0)) 11) := by
 unfold v_filerr v_fw0
 rw [decide_eq_true (show (p0.length:Int) > 0 by omega),decide_eq_true (show (p0.length:Int)≤9 by omega)]
 cases v_any_Zp p0 <;> rfl
theorem l_Zk (p0:gF) (h1:1≤p0.length) (h9:p0.length≤9):OkL (st_Zk_0 p0) (sp_Zk_0 p0) 0∧lpv 0 (st_Zk_0 p0) 0 = v_filerr p0 := by
 have hc:∀ x,(!(s_Z6 x (-100000) 100000))=s_Zu x := fun x => rfl
 refine for_is (fun i (_:Unit) => i) 0 p0.length (fun j _ => ∀ k,k < j→s_Zu (p0.getD k 0)=false) (fun _ _ => v_filerr p0) (by omega) (by omega) ?_ ?_ () (fun k hk => by omega)
 ·intro t hi
  have hd:decide ((p0.length:Int) < (p0.length:Nat))=false := decide_eq_false (by omega)
  have ha:v_any_Zp p0 = false := by
   refine List.any_eq_false.2 fun x hx => ?_
   obtain ⟨k,hk,rfl⟩ := List.mem_iff_getElem.1 hx
   rw [← gd_get 0 hk,hi k hk]; simp
  have hw:v_fw p0 := by
   refine ⟨h1,h9,fun x hx => ?_⟩
   have := List.any_eq_false.1 ha x hx
   exact tx_sized.1 (by simpa [s_Zu] using this)
  refine ⟨by simp only [sp_Zk_0,fM,decide_eq_true_eq]; exact ⟨fun h => by omega,fun h => by omega,fun _ => hw,by simp⟩,?_⟩
  simp only [st_Zk_0,hd,cond_false]
  rw [tx_filerr h1 h9,ha]
  rcases Int.lt_or_le (v_fsum p0) 1 with c | c
  ·rw [decide_eq_true c,decide_eq_false (by omega)]; rfl
  ·rw [decide_eq_false (by omega),decide_eq_true (by omega)]; rfl
 ·intro j t _ hj hi
  have hd:decide ((j:Int) < (p0.length:Nat))=true := decide_eq_true (by omega)
  refine ⟨by simp only [sp_Zk_0,fM,decide_eq_true_eq,decide_eq_false_iff_not]; exact ⟨fun _ => by omega,fun _ => by omega,fun h => absurd hj (by omega),by simp⟩,?_⟩
  simp only [st_Zk_0,hd,cond_true,hc,Int.toNat_natCast]
  cases c:s_Zu (p0.getD j 0)
  ·refine .inl ⟨(),by rw [wrap_nat (by omega)]; rfl,fun k hk => ?_,trivial⟩
   by_cases e:k = j
   ·rw [e]; exact c
   ·exact hi k (by omega)
  ·refine .inr ?_
   rw [tx_filerr h1 h9,show v_any_Zp p0 = true from List.any_eq_true.2 ⟨_,getD_mem' 0 hj,c⟩]; rfl
abbrev t_Zk (p0:gF):Int := v_filerr p0
abbrev qre_Zk (_:gF):List Prop := []
theorem l_ref05_FilterErr0 {p0:List Int} (h:((p0.length:Int) == 0)=false) (h2:decide ((p0.length:Int) > 9)=false):1≤p0.length∧p0.length≤9 := by
 have e1:¬ (p0.length:Int)=0 := by simpa using h
 have e2 := of_decide_eq_false h2
 omega
theorem pp_Zk (p0:gF) (_:∀ p∈qre_Zk p0,p):∀ p∈pre_Zk p0,p := by
 simp only [pre_Zk,fM]
 exact ⟨fun h h2 => (l_Zk p0 (l_ref05_FilterErr0 h h2).1 (l_ref05_FilterErr0 h h2).2).1,by simp⟩
theorem tt_Zk (p0:gF) (_:∀ p∈qre_Zk p0,p):s_Zk p0 = t_Zk p0 := by
 unfold s_Zk t_Zk
 cases h:((p0.length:Int) == 0)
 ·cases h2:decide ((p0.length:Int) > 9)
  ·exact (l_Zk p0 (l_ref05_FilterErr0 h h2).1 (l_ref05_FilterErr0 h h2).2).2
  ·have := of_decide_eq_true h2
   unfold v_filerr v_fw0
   rw [decide_eq_true (show (p0.length:Int) > 0 by omega),decide_eq_false (show ¬ (p0.length:Int)≤9 by omega)]; rfl
 ·have:(p0.length:Int)=0 := by simpa using h
  unfold v_filerr v_fw0
  rw [this]; rfl

abbrev con_Zk:Con := ⟨P_Zk,R_Zk,fun x => qre_Zk x,fun x => t_Zk x⟩
theorem ok_Zk:ConOk Tryd.prog 6 con_Zk := okG k_Zk e_Zk hC_Zk fun x hx => tf_of (w_Zk_eq x _) (d_Zk x _ (pp_Zk x hx) (tt_Zk x hx))
def C_Z11:Cons := []
theorem hC_Z11:ConsOk Tryd.prog C_Z11 := ConsOk.nil
def w_Z11 (p0:gF) (K:(List Int)→Prop):Prop := (((((List.length ([]:List Int)) + p0.length) * 8)≤140737488355328) ∧(K (([]:List Int) ++ p0)))
theorem w_Z11_eq (p0:gF) (K:(List Int)→Prop):tfnO F_Z11 A_Z11 C_Z11 P_Z11 E_Z11 p0 K = w_Z11 p0 K := by kernel_rfl
def s_Z11 (p0:gF):(List Int) := (([]:List Int) ++ p0)
abbrev pre_Z11 (p0:gF):List Prop := [((((List.length ([]:List Int)) + p0.length) * 8)≤140737488355328)]
theorem d_Z11 (p0:gF) (K:(List Int)→Prop) (hp:∀ p∈pre_Z11 p0,p) (h:K (s_Z11 p0)):w_Z11 p0 K := by
 unfold w_Z11
 unfold s_Z11 at h
 obtain ⟨hp0,_⟩ := conj_of hp
 exact ⟨(hp0),h⟩
abbrev t_Z11 (p0:gF):List Int := p0
abbrev qre_Z11 (p0:gF):List Prop := [p0.length≤1000000]
theorem pp_Z11 (p0:gF) (hq:∀ p∈qre_Z11 p0,p):∀ p∈pre_Z11 p0,p := by
 simp only [pre_Z11,fM]
 have := (conj_of hq).1
 exact ⟨by simp; omega,by simp⟩
theorem tt_Z11 (p0:gF) (_hq:∀ p∈qre_Z11 p0,p):s_Z11 p0 = t_Z11 p0 := by
 rfl

abbrev con_Z11:Con := ⟨P_Z11,[.one (.sl E_Z11)],fun x => qre_Z11 x,fun x => t_Z11 x⟩
theorem ok_Z11:ConOOk Tryd.prog 8 con_Z11 := conO_tf (e := E_Z11) (ps := P_Z11) k_Z11 e_Z11 hC_Z11 (fun x hx => tfo_of (w_Z11_eq x (fun z => z = t_Z11 x)) (d_Z11 x (fun z => z = t_Z11 x) (pp_Z11 x hx) (tt_Z11 x hx)))
def C_Zz:Cons := [(38,[],con_Z9)]
theorem hC_Zz:ConsOk Tryd.prog C_Zz := cC ok_Z9 <| ConsOk.nil
def w_Zz (p0:Int) (K:Bool→Prop):Prop := (K (!(s_Z9 p0 (1000000:Int))))
theorem w_Zz_eq (p0:Int) (K:Bool→Prop):tfn F_Zz A_Zz C_Zz P_Zz R_Zz p0 K = w_Zz p0 K := by kernel_rfl
def s_Zz (p0:Int):Bool := (!(s_Z9 p0 (1000000:Int)))
abbrev pre_Zz (_p0:Int):List Prop := []
theorem d_Zz (p0:Int) (K:Bool→Prop) (_hp:∀ p∈pre_Zz p0,p) (h:K (s_Zz p0)):w_Zz p0 K := by
 unfold w_Zz
 unfold s_Zz at h
 exact h
abbrev con_Zz:Con := ⟨P_Zz,R_Zz,fun x => pre_Zz x,fun x => s_Zz x⟩
theorem ok_Zz:ConOk Tryd.prog 42 con_Zz := okG k_Zz e_Zz hC_Zz fun x hx => tf_of (w_Zz_eq x _) (d_Zz x _ hx rfl)
def C_Zd:Cons := [(42,[],con_Zz)]
theorem hC_Zd:ConsOk Tryd.prog C_Zd := cC ok_Zz <| ConsOk.nil
def w_Zd (p0:gF) (_p1:PUnit) (K:Int→Prop):Prop := (∃ n0,(loopP (fun (y1:Int) k2 => ((((decide (y1 < (p0.length:Int)))=true) →((zz0≤y1) ∧((y1 < (p0.length:Int)) ∧((((s_Zz (p0.getD y1.toNat zz0))=true) →(K y1)) ∧(((s_Zz (p0.getD y1.toNat zz0))=false) →(k2 (IntKind.i64.wrap (y1 + 1)))))))) ∧(((decide (y1 < (p0.length:Int)))=false) →(K (-1:Int))))) n0 zz0))
theorem w_Zd_eq (p0:gF) (p1:PUnit) (K:Int→Prop):tfn F_Zd A_Zd C_Zd P_Zd R_Zd (p0,p1) K = w_Zd p0 p1 K := by kernel_rfl
def st_Zd_0 (p0:gF) (_p1:PUnit) (y0:Int):Int ⊕ Int := (cond (decide (y0 < (p0.length:Int))) (cond (s_Zz (p0.getD y0.toNat (0:Int))) (Sum.inr y0) (Sum.inl (IntKind.i64.wrap (y0 + 1)))) (Sum.inr (-1:Int)))
abbrev sp_Zd_0 (p0:gF) (_p1:PUnit) (y0:Int):List Prop := [(((decide (y0 < (p0.length:Int)))=true)→((0:Int)≤y0)),(((decide (y0 < (p0.length:Int)))=true)→(y0 < (p0.length:Int)))]
def s_Zd (p0:gF) (p1:PUnit):Int := (lpv (0:Int) (st_Zd_0 p0 p1) (0:Int))
abbrev pre_Zd (p0:gF) (p1:PUnit):List Prop := [(OkL (st_Zd_0 p0 p1) (sp_Zd_0 p0 p1) (0:Int))]
theorem d_Zd (p0:gF) (p1:PUnit) (K:Int→Prop) (hp:∀ p∈pre_Zd p0 p1,p) (h:K (s_Zd p0 p1)):w_Zd p0 p1 K := by
 unfold w_Zd
 unfold s_Zd at h
 obtain ⟨hp0,_⟩ := conj_of hp
 exact (loop_gen (hp0) h (fun y0 k0 hp h => by
 unfold st_Zd_0 at h; obtain ⟨hp0,hp1,_⟩ := conj_of hp
 exact (br' h (fun e1 h => ⟨(hp0 e1),(hp1 e1),(br' h (fun e2 h => h)
  (fun e2 h => h))⟩)
  (fun e1 h => h))))
theorem l_Zd_0 (p0:gF) (p1:PUnit) (hl:lenOk p0):OkL (st_Zd_0 p0 p1) (sp_Zd_0 p0 p1) 0∧lpv (0:Int) (st_Zd_0 p0 p1) 0 = v_scan (fun i x => cond (s_Zz x) (some i) none) (-1:Int) 0 p0 := by
 refine scan_is p0 0 (fun i x => cond (s_Zz x) (some i) none) (-1:Int) hl ?_ ?_
 ·refine ⟨by simp only [sp_Zd_0,fM,decide_eq_true_eq]; simp,by simp [st_Zd_0]⟩
 ·intro j hj
  have hj' : (j:Int) < p0.length := by omega
  refine ⟨by simp only [sp_Zd_0,fM,decide_eq_true_eq,Int.toNat_natCast]; simp <;> omega,?_⟩
  simp only [st_Zd_0,hj',decide_true,Int.toNat_natCast,cond_true,wrap_nat (show (j:Int)≤9223372036854775806 by unfold lenOk at hl; omega)]
  generalize p0.getD j 0 = x
  cases s_Zz x <;> rfl
def v_idx_Zd (p0:gF):Int := v_scan (fun i x => cond (s_Zz x) (some i) none) (-1) 0 p0
abbrev t_Zd (p0:gF) (_p1:PUnit):Int := v_idx_Zd p0
abbrev qre_Zd (p0:gF) (_p1:PUnit):List Prop := [lenOk p0]
theorem pp_Zd (p0:gF) (p1:PUnit) (hq:∀ p∈qre_Zd p0 p1,p):∀ p∈pre_Zd p0 p1,p := by
 simp only [pre_Zd,fM]
 exact ⟨(l_Zd_0 p0 p1 (conj_of hq).1).1,by simp⟩
theorem tt_Zd (p0:gF) (p1:PUnit) (hq:∀ p∈qre_Zd p0 p1,p):s_Zd p0 p1 = t_Zd p0 p1 := by
 exact (l_Zd_0 p0 p1 (conj_of hq).1).2

abbrev con_Zd:Con := ⟨P_Zd,R_Zd,fun x => qre_Zd x.1 x.2,fun x => t_Zd x.1 x.2⟩
theorem ok_Zd:ConOk Tryd.prog 50 con_Zd := okG k_Zd e_Zd hC_Zd fun x hx => tf_of (w_Zd_eq x.1 x.2 _) (d_Zd x.1 x.2 _ (pp_Zd x.1 x.2 hx) (tt_Zd x.1 x.2 hx))
def C_Zr:Cons := [(50,[42],con_Zd)]
theorem hC_Zr:ConsOk Tryd.prog C_Zr := cC ok_Zd <| ConsOk.nil
def w_Zr (p0:gF) (_p1:PUnit) (K:Bool→Prop):Prop := ((lenOk p0) ∧(K (decide ((v_idx_Zd p0) ≥ 0))))
theorem w_Zr_eq (p0:gF) (p1:PUnit) (K:Bool→Prop):tfn F_Zr A_Zr C_Zr P_Zr R_Zr (p0,p1) K = w_Zr p0 p1 K := by kernel_rfl
def s_Zr (p0:gF) (_p1:PUnit):Bool := (decide ((v_idx_Zd p0) ≥ 0))
abbrev pre_Zr (p0:gF) (_p1:PUnit):List Prop := [(lenOk p0)]
theorem d_Zr (p0:gF) (p1:PUnit) (K:Bool→Prop) (hp:∀ p∈pre_Zr p0 p1,p) (h:K (s_Zr p0 p1)):w_Zr p0 p1 K := by
 unfold w_Zr
 unfold s_Zr at h
 obtain ⟨hp0,_⟩ := conj_of hp
 exact ⟨(hp0),h⟩
def v_any_Zr (p0:gF):Bool := p0.any s_Zz
abbrev t_Zr (p0:gF) (_p1:PUnit):Bool := v_any_Zr p0
abbrev qre_Zr (p0:gF) (_p1:PUnit):List Prop := [lenOk p0]
theorem pp_Zr (p0:gF) (p1:PUnit) (hq:∀ p∈qre_Zr p0 p1,p):∀ p∈pre_Zr p0 p1,p := by
 simpa only [pre_Zr] using hq
theorem tt_Zr (p0:gF) (p1:PUnit) (_hq:∀ p∈qre_Zr p0 p1,p):s_Zr p0 p1 = t_Zr p0 p1 := by
 unfold s_Zr t_Zr v_any_Zr
 exact v_scan_idx p0 0 (Int.le_refl 0)

abbrev con_Zr:Con := ⟨P_Zr,R_Zr,fun x => qre_Zr x.1 x.2,fun x => t_Zr x.1 x.2⟩
theorem ok_Zr:ConOk Tryd.prog 36 con_Zr := okG k_Zr e_Zr hC_Zr fun x hx => tf_of (w_Zr_eq x.1 x.2 _) (d_Zr x.1 x.2 _ (pp_Zr x.1 x.2 hx) (tt_Zr x.1 x.2 hx))
def C_Z19:Cons := [(36,[42],con_Zr),(25,[],con_Z7),(22,[],con_Z8)]
theorem hC_Z19:ConsOk Tryd.prog C_Z19 := cC ok_Zr <| cC ok_Z7 <| cC ok_Z8 <| ConsOk.nil
def w_Z19 (p0:gF) (K:Int→Prop):Prop := ((lenOk p0) ∧((lenOk ((s_Z7 (decide ((p0.length:Int)≤64)) (8:Int)) :: ((s_Z7 (!(v_any_Zr p0)) (2:Int)) :: ([]:List Int)))) ∧(K (v_first ((s_Z7 (decide ((p0.length:Int)≤64)) (8:Int)) :: ((s_Z7 (!(v_any_Zr p0)) (2:Int)) :: ([]:List Int)))))))
theorem w_Z19_eq (p0:gF) (K:Int→Prop):tfn F_Z19 A_Z19 C_Z19 P_Z19 R_Z19 p0 K = w_Z19 p0 K := by kernel_rfl
def s_Z19 (p0:gF):Int := (v_first ((s_Z7 (decide ((p0.length:Int)≤64)) (8:Int)) :: ((s_Z7 (!(v_any_Zr p0)) (2:Int)) :: ([]:List Int))))
abbrev pre_Z19 (p0:gF):List Prop := [(lenOk p0)]
theorem d_Z19 (p0:gF) (K:Int→Prop) (hp:∀ p∈pre_Z19 p0,p) (h:K (s_Z19 p0)):w_Z19 p0 K := by
 unfold w_Z19
 unfold s_Z19 at h
 obtain ⟨hp0,_⟩ := conj_of hp
 exact ⟨(hp0),(lenOk_of 2 rfl (by decide)),h⟩
abbrev con_Z19:Con := ⟨P_Z19,R_Z19,fun x => pre_Z19 x,fun x => s_Z19 x⟩
theorem ok_Z19:ConOk Tryd.prog 23 con_Z19 := okG k_Z19 e_Z19 hC_Z19 fun x hx => tf_of (w_Z19_eq x _) (d_Z19 x _ hx rfl)
def C_Zg:Cons := [(38,[],con_Z9),(25,[],con_Z7),(22,[],con_Z8)]
theorem hC_Zg:ConsOk Tryd.prog C_Zg := cC ok_Z9 <| cC ok_Z7 <| cC ok_Z8 <| ConsOk.nil
def w_Zg (p0:gG) (p1:Int) (K:Int→Prop):Prop := ((((s_Z9 p0.1 p1)=true) →((s_Z9 p0.1 p1)=(s_Z9 p0.1 p1))) ∧((((s_Z9 p0.1 p1)=true) →((s_Z9 p0.1 p1)=(s_Z9 p0.1 p1))) ∧((((s_Z9 p0.1 p1)=true) →((s_Z9 p0.1 p1)=(s_Z9 p0.1 p1))) ∧(((s_Z9 p0.1 p1)=(s_Z9 p0.1 p1)) ∧((lenOk ((s_Z7 (cond (s_Z9 p0.1 p1) (s_Z9 p0.2 p1) false) (2:Int)) :: ((s_Z7 (decide (p0.1≤p0.2)) (9:Int)) :: ([]:List Int)))) ∧(K (v_first ((s_Z7 (cond (s_Z9 p0.1 p1) (s_Z9 p0.2 p1) false) (2:Int)) :: ((s_Z7 (decide (p0.1≤p0.2)) (9:Int)) :: ([]:List Int))))))))))
theorem w_Zg_eq (p0:gG) (p1:Int) (K:Int→Prop):tfn F_Zg A_Zg C_Zg P_Zg R_Zg (p0,p1) K = w_Zg p0 p1 K := by kernel_rfl
def s_Zg (p0:gG) (p1:Int):Int := (v_first ((s_Z7 (cond (s_Z9 p0.1 p1) (s_Z9 p0.2 p1) false) (2:Int)) :: ((s_Z7 (decide (p0.1≤p0.2)) (9:Int)) :: ([]:List Int))))
abbrev pre_Zg (_p0:gG) (_p1:Int):List Prop := []
theorem d_Zg (p0:gG) (p1:Int) (K:Int→Prop) (_hp:∀ p∈pre_Zg p0 p1,p) (h:K (s_Zg p0 p1)):w_Zg p0 p1 K := by
 unfold w_Zg
 unfold s_Zg at h
 exact ⟨rf,rf,rf,rfl,(lenOk_of 2 rfl (by decide)),h⟩
abbrev con_Zg:Con := ⟨P_Zg,R_Zg,fun x => pre_Zg x.1 x.2,fun x => s_Zg x.1 x.2⟩
theorem ok_Zg:ConOk Tryd.prog 51 con_Zg := okG k_Zg e_Zg hC_Zg fun x hx => tf_of (w_Zg_eq x.1 x.2 _) (d_Zg x.1 x.2 _ hx rfl)
def C_Zf:Cons := [(51,[],con_Zg)]
theorem hC_Zf:ConsOk Tryd.prog C_Zf := cC ok_Zg <| ConsOk.nil
def w_Zf (p0:gC) (K:(Int×Int)→Prop):Prop := ((((decide ((p0.length:Int) > 64))=true) →(K (zz0,(8:Int)))) ∧(((decide ((p0.length:Int) > 64))=false) →(∃ n0,(loopP (fun (y1:Int) k2 => ((((decide (y1 < (p0.length:Int)))=true) →((zz0≤y1) ∧((y1 < (p0.length:Int)) ∧(((((s_Zg (p0.getD y1.toNat (zz0,zz0)) (1000000:Int)) != 0)=true) →(K (y1,(s_Zg (p0.getD y1.toNat (zz0,zz0)) (1000000:Int))))) ∧((((s_Zg (p0.getD y1.toNat (zz0,zz0)) (1000000:Int)) != 0)=false) →(k2 (IntKind.i64.wrap (y1 + 1)))))))) ∧(((decide (y1 < (p0.length:Int)))=false) →(K (zz0,zz0))))) n0 zz0))))
theorem w_Zf_eq (p0:gC) (K:(Int×Int)→Prop):tfn F_Zf A_Zf C_Zf P_Zf R_Zf p0 K = w_Zf p0 K := by kernel_rfl
def st_Zf_0 (p0:gC) (y1:Int):Int ⊕ (Int×Int) := (cond (decide (y1 < (p0.length:Int))) (cond ((s_Zg (p0.getD y1.toNat (0,0)) (1000000:Int)) != 0) (Sum.inr (y1,(s_Zg (p0.getD y1.toNat (0,0)) (1000000:Int)))) (Sum.inl (IntKind.i64.wrap (y1 + 1)))) (Sum.inr (0,0)))
abbrev sp_Zf_0 (p0:gC) (y1:Int):List Prop := [(((decide (y1 < (p0.length:Int)))=true)→((0:Int)≤y1)),(((decide (y1 < (p0.length:Int)))=true)→(y1 < (p0.length:Int)))]
def s_Zf (p0:gC):(Int×Int) := (cond (decide ((p0.length:Int) > 64)) ((0:Int),(8:Int)) (lpv (0,0) (st_Zf_0 p0) (0:Int)))
abbrev pre_Zf (p0:gC):List Prop := [(((decide ((p0.length:Int) > 64))=false)→(OkL (st_Zf_0 p0) (sp_Zf_0 p0) (0:Int)))]
theorem d_Zf (p0:gC) (K:(Int×Int)→Prop) (hp:∀ p∈pre_Zf p0,p) (h:K (s_Zf p0)):w_Zf p0 K := by
 unfold w_Zf
 unfold s_Zf at h
 obtain ⟨hp0,_⟩ := conj_of hp
 exact (br' h (fun e0 h => h)
  (fun e0 h => (loop_gen (hp0 e0) h (fun y1 k1 hp h => by
 unfold st_Zf_0 at h; obtain ⟨hp0,hp1,_⟩ := conj_of hp
 exact (br' h (fun e2 h => ⟨(hp0 e2),(hp1 e2),(br' h (fun e3 h => h)
  (fun e3 h => h))⟩)
  (fun e2 h => h))))))
theorem l_Zf_0 (p0:gC) (hl:lenOk p0):OkL (st_Zf_0 p0) (sp_Zf_0 p0) 0∧lpv ((0:Int),(0:Int)) (st_Zf_0 p0) 0 = v_scan (fun i x => cond (s_Zg x 1000000 != 0) (some (i,s_Zg x 1000000)) none) ((0:Int),(0:Int)) 0 p0 := by
 refine scan_is p0 (0,0) (fun i x => cond (s_Zg x 1000000 != 0) (some (i,s_Zg x 1000000)) none) ((0:Int),(0:Int)) hl ?_ ?_
 ·refine ⟨by simp only [sp_Zf_0,fM,decide_eq_true_eq]; simp,by simp [st_Zf_0]⟩
 ·intro j hj
  have hj' : (j:Int) < p0.length := by omega
  refine ⟨by simp only [sp_Zf_0,fM,decide_eq_true_eq,Int.toNat_natCast]; simp <;> omega,?_⟩
  simp only [st_Zf_0,hj',decide_true,Int.toNat_natCast,cond_true,wrap_nat (show (j:Int)≤9223372036854775806 by unfold lenOk at hl; omega)]
  generalize p0.getD j (0,0)=x
  cases (s_Zg x 1000000 != 0) <;> rfl
/-- The error of ranges,with an index. -/
def v_heights (p0:gC):Int×Int := cond (decide ((p0.length:Int) > 64)) (0,8) (v_scan (fun i x => cond (s_Zg x 1000000 != 0) (some (i,s_Zg x 1000000)) none) ((0:Int),(0:Int)) 0 p0)
abbrev t_Zf (p0:gC):Int×Int := v_heights p0
abbrev qre_Zf (_:gC):List Prop := []
theorem pp_Zf (p0:gC) (_:∀ p∈qre_Zf p0,p):∀ p∈pre_Zf p0,p := by
 simp only [pre_Zf,fM]
 refine ⟨fun h => (l_Zf_0 p0 (lenOk_le (n := 64) ?_ (by decide))).1,by simp⟩
 have := of_decide_eq_false h; omega
theorem tt_Zf (p0:gC) (_:∀ p∈qre_Zf p0,p):s_Zf p0 = t_Zf p0 := by
 unfold s_Zf t_Zf v_heights
 cases h:decide ((p0.length:Int) > 64)
 ·have := of_decide_eq_false h
  exact (l_Zf_0 p0 (lenOk_le (n := 64) (by omega) (by decide))).2
 ·rfl
structure v_hok (p0:gC):Prop where
 len:p0.length≤64
 all:∀ x∈p0,(-1000000≤x.1∧x.1≤1000000)∧(-1000000≤x.2∧x.2≤1000000)∧x.1≤x.2
theorem tx_range {x:Int×Int} {m:Int} (hm:0≤m∧m≤1000000000) (h:s_Zg x m = 0):(-m≤x.1∧x.1≤m)∧(-m≤x.2∧x.2≤m)∧x.1≤x.2 := by
 unfold s_Zg s_Z9 at h
 have e:IntKind.i64.wrap (0 - m) = -m := by rw [wrap_id (by omega) (by omega)]; omega
 rw [e] at h
 obtain ⟨h1,h⟩ := v_first0 h
 obtain ⟨h2,_⟩ := v_first0 h
 cases a:s_Zl x.1 (-m) m <;> cases b:s_Zl x.2 (-m) m <;> by_cases c:x.1≤x.2 <;> simp [s_Z7,a,b,c] at h1 h2
 exact ⟨tx_within.1 a,tx_within.1 b,c⟩
theorem tx_heights {p0:List (Int×Int)} (h:(v_heights p0).2 = 0):v_hok p0 := by
 unfold v_heights at h
 cases hl:decide ((p0.length:Int) > 64)
 ·rw [hl] at h
  have hl' := of_decide_eq_false hl
  refine ⟨by omega,fun x hx => ?_⟩
  have := v_scan_end (P := fun (r:gG) => r.2 = 0) p0 0 h (fun j x v _ hv => by
   cases hb:(s_Zg x 1000000 != 0) <;> rw [hb] at hv <;> simp only [cond_true,cond_false,sJ,reduceCtorEq] at hv
   subst hv; simpa using hb)
  obtain ⟨k,hk,rfl⟩ := List.mem_iff_getElem.1 hx
  have := this k hk
  cases hb:(s_Zg p0[k] 1000000 != 0)
  ·exact tx_range (m := 1000000) (by decide) (bne0' hb)
  ·rw [hb] at this; cases this
 ·rw [hl] at h; cases h

abbrev con_Zf:Con := ⟨P_Zf,R_Zf,fun x => qre_Zf x,fun x => t_Zf x⟩
theorem ok_Zf:ConOk Tryd.prog 43 con_Zf := okG k_Zf e_Zf hC_Zf fun x hx => tf_of (w_Zf_eq x _) (d_Zf x _ (pp_Zf x hx) (tt_Zf x hx))
def C_Za:Cons := [(43,[],con_Zf)]
theorem hC_Za:ConsOk Tryd.prog C_Za := cC ok_Zf <| ConsOk.nil
def w_Za (p0:gC) (K:Int→Prop):Prop := (K (v_heights p0).2)
theorem w_Za_eq (p0:gC) (K:Int→Prop):tfn F_Za A_Za C_Za P_Za R_Za p0 K = w_Za p0 K := by kernel_rfl
def s_Za (p0:gC):Int := (v_heights p0).2
abbrev pre_Za (_p0:gC):List Prop := []
theorem d_Za (p0:gC) (K:Int→Prop) (_hp:∀ p∈pre_Za p0,p) (h:K (s_Za p0)):w_Za p0 K := by
 unfold w_Za
 unfold s_Za at h
 exact h
abbrev con_Za:Con := ⟨P_Za,R_Za,fun x => pre_Za x,fun x => s_Za x⟩
theorem ok_Za:ConOk Tryd.prog 24 con_Za := okG k_Za e_Za hC_Za fun x hx => tf_of (w_Za_eq x _) (d_Za x _ hx rfl)
def C_Z1a:Cons := []
theorem hC_Z1a:ConsOk Tryd.prog C_Z1a := ConsOk.nil
def w_Z1a (p0:gC) (p1:Int) (K:((List (Int×Int))×(Int×PUnit))→Prop):Prop := (K (p0,(p1,())))
theorem w_Z1a_eq (p0:gC) (p1:Int) (K:((List (Int×Int))×(Int×PUnit))→Prop):tfn F_Z1a A_Z1a C_Z1a P_Z1a R_Z1a (p0,p1) K = w_Z1a p0 p1 K := by kernel_rfl
def s_Z1a (p0:gC) (p1:Int):((List (Int×Int))×(Int×PUnit)) := (p0,(p1,()))
abbrev pre_Z1a (_p0:gC) (_p1:Int):List Prop := []
theorem d_Z1a (p0:gC) (p1:Int) (K:((List (Int×Int))×(Int×PUnit))→Prop) (_hp:∀ p∈pre_Z1a p0 p1,p) (h:K (s_Z1a p0 p1)):w_Z1a p0 p1 K := by
 unfold w_Z1a
 unfold s_Z1a at h
 exact h
abbrev con_Z1a:Con := ⟨P_Z1a,R_Z1a,fun x => pre_Z1a x.1 x.2,fun x => s_Z1a x.1 x.2⟩
theorem ok_Z1a:ConOk Tryd.prog 27 con_Z1a := okG k_Z1a e_Z1a hC_Z1a fun x hx => tf_of (w_Z1a_eq x.1 x.2 _) (d_Z1a x.1 x.2 _ hx rfl)
/-- So many that follow one another,at each place. -/
def v_windows (l:gC) (c:Int):List (Int×List (Int×Int)) := (List.range (max 0 ((l.length:Int) - c + 1)).toNat).map fun (k:Nat) => ((k:Int),(l.drop k).take c.toNat)
theorem v_windows_eq (l:gC) (c:Int) (hc:1≤c):v_wins (l.map (Ty.enc (.pr (.int .i64) (.int .i64)))) false c = (v_windows l c).map (valPs [.one (.int .i64),.one (.sl (.pr (.int .i64) (.int .i64)))]) := by
 unfold v_wins v_windows
 rw [List.map_map,List.length_map]
 refine List.map_congr_left fun k _ => ?_
 simp only [Function.comp,valPs,valP,Ty.enc,Bool.false_and,List.map_take,List.map_drop,Ty.n]
 rw [show ((k:Int) + c).toNat - (k:Int).toNat = c.toNat by omega]
abbrev con_Z1f:Con := ⟨.fn 44 [.sl (.pr (.int .i64) (.int .i64)),.int .i64] :: .one (.int .i64) :: [.one (.sl (.pr (.int .i64) (.int .i64)))],[.one (.sl (tyPs (.one (.int .i64) :: [.one (.sl (.pr (.int .i64) (.int .i64)))])))],fun x => [1≤x.1.2.1,x.1.2.1≤1000000,x.1.1.length≤1000000],fun x => v_windows x.1.1 x.1.2.1⟩
theorem ok_Z1f:ConIOk Tryd.prog 44 con_Z1f := by
 refine ⟨rfl,k_Z1f,rfl,fun x hx => ?_⟩
 obtain ⟨h1,h2,h3,_⟩ := conj_of hx
 show Iter Tryd.prog 44 [[.sl 2 (x.1.map (Ty.enc (.pr (.int .i64) (.int .i64)))) false],[.int .i64 x.2.1]] ((v_windows x.1 x.2.1).map (valPs [.one (.int .i64),.one (.sl (.pr (.int .i64) (.int .i64)))]))
 rw [← v_windows_eq x.1 x.2.1 h1]
 exact it_windows _ false x.2.1 h1 h2 (by rw [List.length_map]; exact h3)
def C_Zc:Cons := []
theorem hC_Zc:ConsOk Tryd.prog C_Zc := ConsOk.nil
def w_Zc (p0:gF) (p1:gC) (K:(Int×Int)→Prop):Prop := (∃ n0,(loopP (fun (y1:(Int×(Int×Int))) k2 => ((((decide (y1.1 < (p0.length:Int)))=true) →((zz0≤y1.1) ∧((y1.1 < (p0.length:Int)) ∧((zz0≤y1.1) ∧((y1.1 < (p1.length:Int)) ∧((zz0≤y1.1) ∧((y1.1 < (p1.length:Int)) ∧(k2 ((IntKind.i64.wrap (y1.1 + 1)),((IntKind.i64.wrap (y1.2.1 + (min (IntKind.i64.wrap ((p0.getD y1.1.toNat zz0) * (p1.getD y1.1.toNat (zz0,zz0)).1)) (IntKind.i64.wrap ((p0.getD y1.1.toNat zz0) * (p1.getD y1.1.toNat (zz0,zz0)).2))))),(IntKind.i64.wrap (y1.2.2 + (max (IntKind.i64.wrap ((p0.getD y1.1.toNat zz0) * (p1.getD y1.1.toNat (zz0,zz0)).1)) (IntKind.i64.wrap ((p0.getD y1.1.toNat zz0) * (p1.getD y1.1.toNat (zz0,zz0)).2))))))))))))))) ∧(((decide (y1.1 < (p0.length:Int)))=false) →(K y1.2)))) n0 (zz0,(zz0,zz0))))
theorem w_Zc_eq (p0:gF) (p1:gC) (K:(Int×Int)→Prop):tfn F_Zc A_Zc C_Zc P_Zc R_Zc (p0,p1) K = w_Zc p0 p1 K := by kernel_rfl
def st_Zc_0 (p0:gF) (p1:gC) (y0:(Int×(Int×Int))):(Int×(Int×Int)) ⊕ (Int×Int) := (cond (decide (y0.1 < (p0.length:Int))) (Sum.inl ((IntKind.i64.wrap (y0.1 + 1)),((IntKind.i64.wrap (y0.2.1 + (min (IntKind.i64.wrap ((p0.getD y0.1.toNat (0:Int)) * (p1.getD y0.1.toNat (0,0)).1)) (IntKind.i64.wrap ((p0.getD y0.1.toNat (0:Int)) * (p1.getD y0.1.toNat (0,0)).2))))),(IntKind.i64.wrap (y0.2.2 + (max (IntKind.i64.wrap ((p0.getD y0.1.toNat (0:Int)) * (p1.getD y0.1.toNat (0,0)).1)) (IntKind.i64.wrap ((p0.getD y0.1.toNat (0:Int)) * (p1.getD y0.1.toNat (0,0)).2)))))))) (Sum.inr y0.2))
abbrev sp_Zc_0 (p0:gF) (p1:gC) (y0:(Int×(Int×Int))):List Prop := [(((decide (y0.1 < (p0.length:Int)))=true)→((0:Int)≤y0.1)),(((decide (y0.1 < (p0.length:Int)))=true)→(y0.1 < (p0.length:Int))),(((decide (y0.1 < (p0.length:Int)))=true)→(y0.1 < (p1.length:Int)))]
def s_Zc (p0:gF) (p1:gC):(Int×Int) := (lpv (0,0) (st_Zc_0 p0 p1) ((0:Int),(0,0)))
abbrev pre_Zc (p0:gF) (p1:gC):List Prop := [(OkL (st_Zc_0 p0 p1) (sp_Zc_0 p0 p1) ((0:Int),(0,0)))]
theorem d_Zc (p0:gF) (p1:gC) (K:(Int×Int)→Prop) (hp:∀ p∈pre_Zc p0 p1,p) (h:K (s_Zc p0 p1)):w_Zc p0 p1 K := by
 unfold w_Zc
 unfold s_Zc at h
 obtain ⟨hp0,_⟩ := conj_of hp
 exact (loop_gen (hp0) h (fun y0 k0 hp h => by
 unfold st_Zc_0 at h; obtain ⟨hp0,hp1,hp2,_⟩ := conj_of hp
 exact (br' h (fun e1 h => ⟨(hp0 e1),(hp1 e1),(hp0 e1),(hp2 e1),(hp0 e1),(hp2 e1),h⟩)
  (fun e1 h => h))))
/-- The range of the sum of weights times numbers within ranges. -/
def v_lin:List Int→List (Int×Int)→Int×Int
 | w :: ws,x :: xs => (min (w * x.1) (w * x.2) + (v_lin ws xs).1,max (w * x.1) (w * x.2) + (v_lin ws xs).2)
 | _,_ => (0,0)
theorem v_prod {w x m:Int} (hw : -m≤w∧w≤m) (hx : -1000000≤x∧x≤1000000) (_hm:0≤m) : -(m * 1000000)≤w * x∧w * x≤m * 1000000 := by
 have h1:0≤(m - w) * (1000000 + x) := Int.mul_nonneg (by omega) (by omega)
 have h2:0≤(m + w) * (1000000 - x) := Int.mul_nonneg (by omega) (by omega)
 have h3:0≤(m - w) * (1000000 - x) := Int.mul_nonneg (by omega) (by omega)
 have h4:0≤(m + w) * (1000000 + x) := Int.mul_nonneg (by omega) (by omega)
 simp only [Int.sub_mul,Int.add_mul,Int.mul_add,Int.mul_sub] at h1 h2 h3 h4
 omega
/-- Weights,and numbers within ranges,whose sums fit. -/
structure v_linok (p0:gF) (p1:gC):Prop where
 len:p0.length≤p1.length
 few:p0.length≤100
 w:∀ x∈p0,-1000000≤x∧x≤1000000
 x:∀ x∈p1,(-1000000≤x.1∧x.1≤1000000)∧(-1000000≤x.2∧x.2≤1000000)
theorem l_Zc (p0:gF) (p1:gC) (h:v_linok p0 p1):OkL (st_Zc_0 p0 p1) (sp_Zc_0 p0 p1) (0,0,0)∧s_Zc p0 p1 = v_lin p0 p1 := by
 have hf := h.few
 have hle := h.len
 have := list_is (dd := ((0:Int),(0:Int))) (st := st_Zc_0 p0 p1) (sp := sp_Zc_0 p0 p1) (fun i (t:gG) => (i,t)) p0 0
  (fun r t => r.length≤p0.length∧(-((p0.length - r.length) * 1000000000000)≤t.1∧t.1≤((p0.length - r.length) * 1000000000000))∧(-((p0.length - r.length) * 1000000000000)≤t.2∧t.2≤((p0.length - r.length) * 1000000000000)))
  (fun r t => (t.1 + (v_lin r (p1.drop (p0.length - r.length))).1,t.2 + (v_lin r (p1.drop (p0.length - r.length))).2)) (by unfold lenOk; omega) ?_ ?_ (0,0) ⟨Nat.le_refl _,by simp,by simp⟩
 ·refine ⟨this.1,this.2.trans ?_⟩
  simp
 ·intro t _
  refine ⟨by simp only [sp_Zc_0,fM,decide_eq_true_eq]; simp,by simp [st_Zc_0,v_lin]⟩
 ·intro j t hj hi
  obtain ⟨_,hi1,hi2⟩ := hi
  have hj' : (j:Int) < p0.length := by omega
  have e1:(p0.getD j 0 :: p0.drop (j + 1)).length = p0.length - j := by simp; omega
  have e2:(p0.drop (j + 1)).length = p0.length - (j + 1) := by simp
  have e3:p0.length - (p0.length - j)=j := by omega
  have e4:p0.length - (p0.length - (j + 1))=j + 1 := by omega
  rw [e1] at hi1 hi2
  have hw := h.w _ (getD_mem' 0 hj)
  have hx := h.x _ (getD_mem' (0,0) (show j < p1.length by omega))
  have hd := drop_getD ((0:Int),(0:Int)) (show j < p1.length by omega)
  refine ⟨by simp only [sp_Zc_0,fM,decide_eq_true_eq]; simp <;> omega,.inl ⟨(t.1 + min (p0.getD j 0 * (p1.getD j (0,0)).1) (p0.getD j 0 * (p1.getD j (0,0)).2),t.2 + max (p0.getD j 0 * (p1.getD j (0,0)).1) (p0.getD j 0 * (p1.getD j (0,0)).2)),?_,?_,?_⟩⟩
  ·simp only [st_Zc_0,hj',decide_true,Int.toNat_natCast,cond_true,wrap_nat (show (j:Int)≤9223372036854775806 by omega)]
   generalize p0.getD j 0 = w at *
   generalize p1.getD j (0,0)=x at *
   have b1 := v_prod (m := 1000000) hw hx.1 (by decide)
   have b2 := v_prod (m := 1000000) hw hx.2 (by decide)
   rw [wrap_id (n := w * x.1) (by omega) (by omega),wrap_id (n := w * x.2) (by omega) (by omega),wrap_id (by omega) (by omega),wrap_id (by omega) (by omega)]
  ·rw [e2]
   generalize p0.getD j 0 = w at *
   generalize p1.getD j (0,0)=x at *
   have b1 := v_prod (m := 1000000) hw hx.1 (by decide)
   have b2 := v_prod (m := 1000000) hw hx.2 (by decide)
   exact ⟨by omega,by simp only; omega,by simp only; omega⟩
  ·rw [e1,e2,e3,e4,hd]
   simp only [v_lin]
   rw [pJ]
   exact ⟨by omega,by omega⟩
abbrev t_Zc (p0:gF) (p1:gC):Int×Int := v_lin p0 p1
abbrev qre_Zc (p0:gF) (p1:gC):List Prop := [v_linok p0 p1]
theorem pp_Zc (p0:gF) (p1:gC) (hq:∀ p∈qre_Zc p0 p1,p):∀ p∈pre_Zc p0 p1,p := by
 simp only [pre_Zc,fM]
 exact ⟨(l_Zc p0 p1 (conj_of hq).1).1,by simp⟩
theorem tt_Zc (p0:gF) (p1:gC) (hq:∀ p∈qre_Zc p0 p1,p):s_Zc p0 p1 = t_Zc p0 p1 := (l_Zc p0 p1 (conj_of hq).1).2

abbrev con_Zc:Con := ⟨P_Zc,R_Zc,fun x => qre_Zc x.1 x.2,fun x => t_Zc x.1 x.2⟩
theorem ok_Zc:ConOk Tryd.prog 28 con_Zc := okG k_Zc e_Zc hC_Zc fun x hx => tf_of (w_Zc_eq x.1 x.2 _) (d_Zc x.1 x.2 _ (pp_Zc x.1 x.2 hx) (tt_Zc x.1 x.2 hx))
def C_Z2:Cons := [(23,[],con_Z19),(24,[],con_Za),(26,[],con_Zl),(25,[],con_Z7),(22,[],con_Z8),(27,[],con_Z1a),(44,itMark,con_Z1f),(28,[],con_Zc)]
theorem hC_Z2:ConsOk Tryd.prog C_Z2 := cC ok_Z19 <| cC ok_Za <| cC ok_Zl <| cC ok_Z7 <| cC ok_Z8 <| cC ok_Z1a <| ConsOk.consI ok_Z1f <| cC ok_Zc <| ConsOk.nil
abbrev q1_Z2 (p0:gF) (p1:gC) := ((p0.length:Int) == (p1.length:Int))
abbrev q0_Z2 (p0:gF) (p1:gC) (p2:Int) := ((s_Z19 p0) :: ((s_Za p1) :: ((s_Z7 (s_Zl p2 zz0 (1000:Int)) zz2) :: ((s_Z7 (cond (q1_Z2 p0 p1) (decide ((p0.length:Int) ≥ zz3)) false) (10:Int)) :: ([]:List Int)))))
def w_Z2 (p0:gF) (p1:gC) (p2:Int) (K:((List (Int×Int))×Int)→Prop):Prop := ((lenOk p0) ∧((((q1_Z2 p0 p1)=true) →((q1_Z2 p0 p1)=(q1_Z2 p0 p1))) ∧((((q1_Z2 p0 p1)=true) →((q1_Z2 p0 p1)=(q1_Z2 p0 p1))) ∧(((q1_Z2 p0 p1)=(q1_Z2 p0 p1)) ∧((lenOk (q0_Z2 p0 p1 p2)) ∧(((((v_first (q0_Z2 p0 p1 p2)) != zz0)=true) →(K (([]:List (Int×Int)),(v_first (q0_Z2 p0 p1 p2))))) ∧((((v_first (q0_Z2 p0 p1 p2)) != zz0)=false) →((zz1≤zz3) ∧((zz3≤1000000) ∧((p1.length≤1000000) ∧(RngP (fun (y0:gC) (z1:(Int×(List (Int×Int)))) k2 => ((v_linok (zz1 :: ((-2:Int) :: (zz1 :: ([]:List Int)))) z1.2) ∧((zz0≤(wi (z1.1 + zz1))) ∧(((wi (z1.1 + zz1)) < (p0.length:Int)) ∧((((y0.length + (List.length (((wi ((p0.getD (Int.toNat (wi (z1.1 + zz1))) zz0) - (wi (p2 * (v_lin (zz1 :: ((-2:Int) :: (zz1 :: ([]:List Int)))) z1.2).2)))),(wi ((p0.getD (Int.toNat (wi (z1.1 + zz1))) zz0) - (wi (p2 * (v_lin (zz1 :: ((-2:Int) :: (zz1 :: ([]:List Int)))) z1.2).1))))) :: ([]:List (Int×Int))))) * 16)≤140737488355328) ∧(k2 (y0 ++ (((wi ((p0.getD (Int.toNat (wi (z1.1 + zz1))) zz0) - (wi (p2 * (v_lin (zz1 :: ((-2:Int) :: (zz1 :: ([]:List Int)))) z1.2).2)))),(wi ((p0.getD (Int.toNat (wi (z1.1 + zz1))) zz0) - (wi (p2 * (v_lin (zz1 :: ((-2:Int) :: (zz1 :: ([]:List Int)))) z1.2).1))))) :: ([]:List (Int×Int)))))))))) (fun (s3:gC) => (K (s3,zz0))) (v_windows p1 zz3) ([]:List (Int×Int)))))))))))))
theorem w_Z2_eq (p0:gF) (p1:gC) (p2:Int) (K:((List (Int×Int))×Int)→Prop):tfn F_Z2 A_Z2 C_Z2 P_Z2 R_Z2 (p0,p1,p2) K = w_Z2 p0 p1 p2 K := by kernel_rfl
def st_Z2_0 (p0:gF) (_p1:gC) (p2:Int) (y1:gC) (z1:(Int×(List (Int×Int)))):(List (Int×Int)) ⊕ ((List (Int×Int))×Int) := (Sum.inl (y1 ++ (((IntKind.i64.wrap ((p0.getD (Int.toNat (IntKind.i64.wrap (z1.1 + 1))) (0:Int)) - (IntKind.i64.wrap (p2 * (v_lin ((1:Int) :: ((-2:Int) :: ((1:Int) :: ([]:List Int)))) z1.2).2)))),(IntKind.i64.wrap ((p0.getD (Int.toNat (IntKind.i64.wrap (z1.1 + 1))) (0:Int)) - (IntKind.i64.wrap (p2 * (v_lin ((1:Int) :: ((-2:Int) :: ((1:Int) :: ([]:List Int)))) z1.2).1))))) :: ([]:List (Int×Int)))))
abbrev sp_Z2_0 (p0:gF) (_p1:gC) (p2:Int) (y1:gC) (z1:(Int×(List (Int×Int)))):List Prop := [(v_linok ((1:Int) :: ((-2:Int) :: ((1:Int) :: ([]:List Int)))) z1.2),((0:Int)≤(IntKind.i64.wrap (z1.1 + 1))),((IntKind.i64.wrap (z1.1 + 1)) < (p0.length:Int)),(((y1.length + (List.length (((IntKind.i64.wrap ((p0.getD (Int.toNat (IntKind.i64.wrap (z1.1 + 1))) (0:Int)) - (IntKind.i64.wrap (p2 * (v_lin ((1:Int) :: ((-2:Int) :: ((1:Int) :: ([]:List Int)))) z1.2).2)))),(IntKind.i64.wrap ((p0.getD (Int.toNat (IntKind.i64.wrap (z1.1 + 1))) (0:Int)) - (IntKind.i64.wrap (p2 * (v_lin ((1:Int) :: ((-2:Int) :: ((1:Int) :: ([]:List Int)))) z1.2).1))))) :: ([]:List (Int×Int))))) * 16)≤140737488355328)]
def sf_Z2_0 (_p0:gF) (_p1:gC) (_p2:Int) (s1:gC):((List (Int×Int))×Int) := (s1,(0:Int))
abbrev sq_Z2_0 (_p0:gF) (_p1:gC) (_p2:Int) (_s1:gC):List Prop := []
def s_Z2 (p0:gF) (p1:gC) (p2:Int):((List (Int×Int))×Int) := (cond ((v_first ((s_Z19 p0) :: ((s_Za p1) :: ((s_Z7 (s_Zl p2 (0:Int) (1000:Int)) (2:Int)) :: ((s_Z7 (cond ((p0.length:Int) == (p1.length:Int)) (decide ((p0.length:Int) ≥ 3)) false) (10:Int)) :: ([]:List Int)))))) != 0) (([]:List (Int×Int)),(v_first ((s_Z19 p0) :: ((s_Za p1) :: ((s_Z7 (s_Zl p2 (0:Int) (1000:Int)) (2:Int)) :: ((s_Z7 (cond ((p0.length:Int) == (p1.length:Int)) (decide ((p0.length:Int) ≥ 3)) false) (10:Int)) :: ([]:List Int))))))) (rngV (st_Z2_0 p0 p1 p2) (sf_Z2_0 p0 p1 p2) (v_windows p1 (3:Int)) ([]:List (Int×Int))))
abbrev pre_Z2 (p0:gF) (p1:gC) (p2:Int):List Prop := [(lenOk p0),((((v_first ((s_Z19 p0) :: ((s_Za p1) :: ((s_Z7 (s_Zl p2 (0:Int) (1000:Int)) (2:Int)) :: ((s_Z7 (cond ((p0.length:Int) == (p1.length:Int)) (decide ((p0.length:Int) ≥ 3)) false) (10:Int)) :: ([]:List Int)))))) != 0)=false)→(p1.length≤1000000)),((((v_first ((s_Z19 p0) :: ((s_Za p1) :: ((s_Z7 (s_Zl p2 (0:Int) (1000:Int)) (2:Int)) :: ((s_Z7 (cond ((p0.length:Int) == (p1.length:Int)) (decide ((p0.length:Int) ≥ 3)) false) (10:Int)) :: ([]:List Int)))))) != 0)=false)→(OkR (st_Z2_0 p0 p1 p2) (sp_Z2_0 p0 p1 p2) (sq_Z2_0 p0 p1 p2) (v_windows p1 (3:Int)) ([]:List (Int×Int))))]
theorem d_Z2 (p0:gF) (p1:gC) (p2:Int) (K:((List (Int×Int))×Int)→Prop) (hp:∀ p∈pre_Z2 p0 p1 p2,p) (h:K (s_Z2 p0 p1 p2)):w_Z2 p0 p1 p2 K := by
 unfold w_Z2
 unfold s_Z2 at h
 obtain ⟨hp0,hp1,hp2,_⟩ := conj_of hp
 exact ⟨(hp0),rf,rf,rfl,(lenOk_of 4 rfl (by decide)),(br' h (fun e0 h => h)
  (fun e0 h => ⟨(od rfl),(od rfl),(hp1 e0),(rng_gen (hp2 e0) h (fun y1 z1 k1 hp h => by
 unfold st_Z2_0 at h; obtain ⟨hp0,hp1,hp2,hp3,_⟩ := conj_of hp
 exact ⟨(hp0),(hp1),(hp2),(hp3),h⟩) (fun s1 hp h => by
 unfold sf_Z2_0 at h
 exact h))⟩))⟩
/-- A second difference. -/
def v_sec (a b c:gG):Int×Int := v_lin [1,-2,1] [a,b,c]
theorem v_sec_eq {a b c:Int×Int} (ha:a.1≤a.2) (hb:b.1≤b.2) (hc:c.1≤c.2):v_sec a b c = (c.1 - 2 * b.2 + a.1,c.2 - 2 * b.1 + a.2) := by
 simp only [v_sec,v_lin]
 rw [pJ]
 exact ⟨by omega,by omega⟩
theorem take3 {l:List (Int×Int)} {k:Nat} (h:k + 2 < l.length):(l.drop k).take 3 = [l.getD k (0,0),l.getD (k + 1) (0,0),l.getD (k + 2) (0,0)] := by
 rw [drop_getD (0,0) (show k < l.length by omega),drop_getD (0,0) (show k + 1 < l.length by omega),drop_getD (0,0) (show k + 1 + 1 < l.length by omega)]
 rfl
/-- Accelerations. -/
def v_acc (l:gC):List (Int×Int) := (List.range' 0 (l.length - 2)).map fun k => v_sec (l.getD k (0,0)) (l.getD (k + 1) (0,0)) (l.getD (k + 2) (0,0))
theorem v_windows3 (l:gC):v_windows l 3 = (List.range (l.length - 2)).map fun (k:Nat) => ((k:Int),[l.getD k (0,0),l.getD (k + 1) (0,0),l.getD (k + 2) (0,0)]) := by
 unfold v_windows
 rw [show (max 0 ((l.length:Int) - 3 + 1)).toNat = l.length - 2 by omega]
 refine List.map_congr_left fun k hk => ?_
 rw [List.mem_range] at hk
 rw [show (3:Int).toNat = 3 from rfl,take3 (by omega)]
theorem v_win_mem {l:List (Int×Int)} {z:Int×List (Int×Int)} (hz:z∈v_windows l 3) (hl:v_hok l):v_linok [1,-2,1] z.2∧0≤z.1∧z.1 + 2 < l.length := by
 rw [v_windows3] at hz
 obtain ⟨k,hk,rfl⟩ := List.mem_map.1 hz
 rw [List.mem_range] at hk
 have hx:∀ j,j < l.length→(-1000000≤(l.getD j (0,0)).1∧(l.getD j (0,0)).1≤1000000)∧(-1000000≤(l.getD j (0,0)).2∧(l.getD j (0,0)).2≤1000000) := fun j hj => ⟨(hl.all _ (getD_mem' _ hj)).1,(hl.all _ (getD_mem' _ hj)).2.1⟩
 refine ⟨⟨by simp,by simp,by simp,?_⟩,by simp,by simp only; omega⟩
 intro x hx'
 simp only [List.mem_cons,List.not_mem_nil,or_false] at hx'
 rcases hx' with rfl | rfl | rfl <;> exact hx _ (by omega)
theorem tx_rangesErr {p0:List (Int×Int)} (h:s_Za p0 = 0):v_hok p0 := tx_heights h
/-- The error of what residuals are made of. -/
def v_reserr (p0:gF) (p1:gC) (p2:Int):Int := v_first (s_Z19 p0 :: s_Za p1 :: s_Z7 (s_Zl p2 0 1000) 2 :: s_Z7 (cond ((p0.length:Int) == (p1.length:Int)) (decide ((p0.length:Int) ≥ 3)) false) 10 :: [])
structure v_resok (p0:gF) (p1:gC) (p2:Int):Prop where
 hok:v_hok p1
 len:p0.length = p1.length
 three:3≤p0.length
 sc:0≤p2∧p2≤1000
theorem tx_unless0 {a:Bool} {x:Int} (hx:x ≠ 0) (h:s_Z7 a x = 0):a = true := by
 cases a
 ·exact (hx h).elim
 ·rfl
theorem tx_and {a b:Bool} (h:(cond a b false)=true):a = true∧b = true := by cases a <;> simp_all
theorem tx_res {p0:List Int} {p1:List (Int×Int)} {p2:Int} (h:v_reserr p0 p1 p2 = 0):v_resok p0 p1 p2 := by
 obtain ⟨_,h⟩ := v_first0 h
 obtain ⟨h1,h⟩ := v_first0 h
 obtain ⟨h2,h⟩ := v_first0 h
 obtain ⟨h3,_⟩ := v_first0 h
 obtain ⟨h4,h5⟩ := tx_and (tx_unless0 (by decide) h3)
 have h4' : (p0.length:Int)=p1.length := by simpa using h4
 have h5' := of_decide_eq_true h5
 exact ⟨tx_rangesErr h1,by omega,by omega,tx_within.1 (tx_unless0 (by decide) h2)⟩
/-- Residuals. -/
def v_res (p0:gF) (p1:gC) (p2:Int):List (Int×Int) := (List.range' 0 (p1.length - 2)).map fun k => (IntKind.i64.wrap (p0.getD (k + 1) 0 - IntKind.i64.wrap (p2 * ((v_acc p1).getD k (0,0)).2)),IntKind.i64.wrap (p0.getD (k + 1) 0 - IntKind.i64.wrap (p2 * ((v_acc p1).getD k (0,0)).1)))
theorem v_acc_get {l:List (Int×Int)} {k:Nat} (h:k < l.length - 2):(v_acc l).getD k (0,0)=v_sec (l.getD k (0,0)) (l.getD (k + 1) (0,0)) (l.getD (k + 2) (0,0)) := by
 unfold v_acc
 rw [List.getD,List.getElem?_map,List.getElem?_range' h]; simp
theorem l_Z2 (p0:gF) (p1:gC) (p2:Int) (h:v_resok p0 p1 p2):OkR (st_Z2_0 p0 p1 p2) (sp_Z2_0 p0 p1 p2) (sq_Z2_0 p0 p1 p2) (v_windows p1 3) []∧rngV (st_Z2_0 p0 p1 p2) (sf_Z2_0 p0 p1 p2) (v_windows p1 3) []=(v_res p0 p1 p2,0) := by
 have hlen := h.hok.len
 have hl2 := h.len
 have := rng_map (st := st_Z2_0 p0 p1 p2) (sp := sp_Z2_0 p0 p1 p2) (fin := sf_Z2_0 p0 p1 p2) (fp := sq_Z2_0 p0 p1 p2)
  (fun z => (IntKind.i64.wrap (p0.getD (IntKind.i64.wrap (z.1 + 1)).toNat 0 - IntKind.i64.wrap (p2 * (v_lin [1,-2,1] z.2).2)),IntKind.i64.wrap (p0.getD (IntKind.i64.wrap (z.1 + 1)).toNat 0 - IntKind.i64.wrap (p2 * (v_lin [1,-2,1] z.2).1)))) (v_windows p1 3) (by rw [v_windows3]; simp; omega) (fun y z _ => rfl) ?_ (by simp)
 ·refine ⟨this.1,this.2.trans ?_⟩
  unfold sf_Z2_0 v_res
  rw [v_windows3,List.map_map,List.range_eq_range',pJ]
  refine ⟨List.map_congr_left fun k hk => ?_,rfl⟩
  rw [List.mem_range'_1] at hk
  have hw:(IntKind.i64.wrap ((k:Int) + 1)).toNat = k + 1 := by rw [wrap_nat (by omega)]; rfl
  simp only [Function.comp,hw,v_acc_get (show k < p1.length - 2 by omega)]
  rfl
 ·intro y z hz hy
  obtain ⟨g1,g2,g3⟩ := v_win_mem hz h.hok
  have hw:IntKind.i64.wrap (z.1 + 1)=z.1 + 1 := wrap_id (by omega) (by omega)
  simp only [sp_Z2_0,fM,hw]
  exact ⟨g1,by omega,by omega,by simp; omega,by simp⟩
abbrev t_Z2 (p0:gF) (p1:gC) (p2:Int):List (Int×Int)×Int := cond (v_reserr p0 p1 p2 != 0) ([],v_reserr p0 p1 p2) (v_res p0 p1 p2,0)
abbrev qre_Z2 (p0:gF) (_:gC) (_:Int):List Prop := [lenOk p0]
theorem pp_Z2 (p0:gF) (p1:gC) (p2:Int) (hq:∀ p∈qre_Z2 p0 p1 p2,p):∀ p∈pre_Z2 p0 p1 p2,p := by
 simp only [pre_Z2,fM]
 have key:(v_reserr p0 p1 p2 != 0)=false→v_resok p0 p1 p2 := fun h => tx_res (bne0' h)
 exact ⟨(conj_of hq).1,fun h => by have := (key h).hok.len; omega,fun h => (l_Z2 p0 p1 p2 (key h)).1,by simp⟩
theorem tt_Z2 (p0:gF) (p1:gC) (p2:Int) (_:∀ p∈qre_Z2 p0 p1 p2,p):s_Z2 p0 p1 p2 = t_Z2 p0 p1 p2 := by
 show cond (v_reserr p0 p1 p2 != 0) ([],v_reserr p0 p1 p2) (rngV (st_Z2_0 p0 p1 p2) (sf_Z2_0 p0 p1 p2) (v_windows p1 3) [])=_
 unfold t_Z2
 cases h:(v_reserr p0 p1 p2 != 0)
 ·simp only [cond_false]
  exact (l_Z2 p0 p1 p2 (tx_res (bne0' h))).2
 ·rfl

abbrev con_Z2:Con := ⟨P_Z2,R_Z2,fun x => qre_Z2 x.1 x.2.1 x.2.2,fun x => t_Z2 x.1 x.2.1 x.2.2⟩
theorem ok_Z2:ConOk Tryd.prog 7 con_Z2 := okG k_Z2 e_Z2 hC_Z2 fun x hx => tf_of (w_Z2_eq x.1 x.2.1 x.2.2 _) (d_Z2 x.1 x.2.1 x.2.2 _ (pp_Z2 x.1 x.2.1 x.2.2 hx) (tt_Z2 x.1 x.2.1 x.2.2 hx))
def C_Zh:Cons := [(5,[],con_Z6)]
theorem hC_Zh:ConsOk Tryd.prog C_Zh := cC ok_Z6 <| ConsOk.nil
def w_Zh (p0:gC) (p1:gF) (p2:Int) (K:Bool→Prop):Prop := (((((p0.length:Int) != (IntKind.i64.wrap ((p1.length:Int) - (IntKind.i64.wrap ((2:Int) * p2)))))=true) →(K false)) ∧((((p0.length:Int) != (IntKind.i64.wrap ((p1.length:Int) - (IntKind.i64.wrap ((2:Int) * p2)))))=false) →(∃ n0,(loopP (fun (y1:Int) k2 => ((((decide (y1 < (p0.length:Int)))=true) →((zz0≤(IntKind.i64.wrap (y1 + p2))) ∧(((IntKind.i64.wrap (y1 + p2)) < (p1.length:Int)) ∧((zz0≤y1) ∧((y1 < (p0.length:Int)) ∧((zz0≤y1) ∧((y1 < (p0.length:Int)) ∧((((!(s_Z6 (p1.getD (Int.toNat (IntKind.i64.wrap (y1 + p2))) zz0) (p0.getD y1.toNat (zz0,zz0)).1 (p0.getD y1.toNat (zz0,zz0)).2))=true) →(K false)) ∧(((!(s_Z6 (p1.getD (Int.toNat (IntKind.i64.wrap (y1 + p2))) zz0) (p0.getD y1.toNat (zz0,zz0)).1 (p0.getD y1.toNat (zz0,zz0)).2))=false) →(k2 (IntKind.i64.wrap (y1 + 1)))))))))))) ∧(((decide (y1 < (p0.length:Int)))=false) →(K true)))) n0 zz0))))
theorem w_Zh_eq (p0:gC) (p1:gF) (p2:Int) (K:Bool→Prop):tfn F_Zh A_Zh C_Zh P_Zh R_Zh (p0,p1,p2) K = w_Zh p0 p1 p2 K := by kernel_rfl
def st_Zh_0 (p0:gC) (p1:gF) (p2:Int) (y1:Int):Int ⊕ Bool := (cond (decide (y1 < (p0.length:Int))) (cond (!(s_Z6 (p1.getD (Int.toNat (IntKind.i64.wrap (y1 + p2))) (0:Int)) (p0.getD y1.toNat (0,0)).1 (p0.getD y1.toNat (0,0)).2)) (Sum.inr false) (Sum.inl (IntKind.i64.wrap (y1 + 1)))) (Sum.inr true))
abbrev sp_Zh_0 (p0:gC) (p1:gF) (p2:Int) (y1:Int):List Prop := [(((decide (y1 < (p0.length:Int)))=true)→((0:Int)≤(IntKind.i64.wrap (y1 + p2)))),(((decide (y1 < (p0.length:Int)))=true)→((IntKind.i64.wrap (y1 + p2)) < (p1.length:Int))),(((decide (y1 < (p0.length:Int)))=true)→((0:Int)≤y1)),(((decide (y1 < (p0.length:Int)))=true)→(y1 < (p0.length:Int)))]
def s_Zh (p0:gC) (p1:gF) (p2:Int):Bool := (cond ((p0.length:Int) != (IntKind.i64.wrap ((p1.length:Int) - (IntKind.i64.wrap ((2:Int) * p2))))) false (lpv false (st_Zh_0 p0 p1 p2) (0:Int)))
abbrev pre_Zh (p0:gC) (p1:gF) (p2:Int):List Prop := [((((p0.length:Int) != (IntKind.i64.wrap ((p1.length:Int) - (IntKind.i64.wrap ((2:Int) * p2)))))=false)→(OkL (st_Zh_0 p0 p1 p2) (sp_Zh_0 p0 p1 p2) (0:Int)))]
theorem d_Zh (p0:gC) (p1:gF) (p2:Int) (K:Bool→Prop) (hp:∀ p∈pre_Zh p0 p1 p2,p) (h:K (s_Zh p0 p1 p2)):w_Zh p0 p1 p2 K := by
 unfold w_Zh
 unfold s_Zh at h
 obtain ⟨hp0,_⟩ := conj_of hp
 exact (br' h (fun e0 h => h)
  (fun e0 h => (loop_gen (hp0 e0) h (fun y1 k1 hp h => by
 unfold st_Zh_0 at h; obtain ⟨hp0,hp1,hp2,hp3,_⟩ := conj_of hp
 exact (br' h (fun e2 h => ⟨(hp0 e2),(hp1 e2),(hp2 e2),(hp3 e2),(hp2 e2),(hp3 e2),(br' h (fun e3 h => h)
  (fun e3 h => h))⟩)
  (fun e2 h => h))))))
/-- Whether ranges contain numbers from an index on,and all before so many at the end. -/
def v_hin (l:gC) (t:gF) (f:Nat) (i:Nat):Bool := s_Z6 (t.getD (i + f) 0) (l.getD i (0,0)).1 (l.getD i (0,0)).2
def v_hold (l:gC) (t:gF) (f:Int):Bool := cond ((l.length:Int) != (t.length:Int) - 2 * f) false ((List.range' 0 l.length).all (v_hin l t f.toNat))
theorem v_hold_iff {l:List (Int×Int)} {t:List Int} {f:Nat}:v_hold l t f = true ↔ (l.length:Int)=(t.length:Int) - 2 * f∧∀ i,i < l.length→(l.getD i (0,0)).1≤t.getD (i + f) 0∧t.getD (i + f) 0≤(l.getD i (0,0)).2 := by
 unfold v_hold
 by_cases h:(l.length:Int)=(t.length:Int) - 2 * f
 ·rw [(bne_eq_false_iff_eq ..).2 h,cond_false,List.all_eq_true]
  constructor
  ·intro a
   exact ⟨h,fun i hi => tx_within.1 (a i (List.mem_range'_1.2 (by omega)))⟩
  ·intro a i hi
   exact tx_within.2 (a.2 i (by have := List.mem_range'_1.1 hi; omega))
 ·rw [bne_iff_ne.2 h,cond_true]
  constructor
  ·intro e; cases e
  ·intro e; exact (h e.1).elim
theorem v_all_step {p:Nat→Bool} {j n:Nat} (hj:j < n):(List.range' j (n - j)).all p = (p j && (List.range' (j + 1) (n - (j + 1))).all p) := by
 rw [show n - j = (n - (j + 1)) + 1 by omega,List.range'_succ,List.all_cons]
theorem l_Zh_0 (p0:gC) (p1:gF) (f:Nat) (hl:p0.length≤1000000) (h1:p1.length≤1000000) (he:(p0.length:Int)=(p1.length:Int) - 2 * (f:Int)):OkL (st_Zh_0 p0 p1 f) (sp_Zh_0 p0 p1 f) 0∧lpv false (st_Zh_0 p0 p1 f) 0 = (List.range' 0 p0.length).all (v_hin p0 p1 f) := by
 refine @for_is Unit Int Bool false (st_Zh_0 p0 p1 f) (sp_Zh_0 p0 p1 f) (fun i _ => i) 0 p0.length (fun _ _ => True) (fun j _ => (List.range' j (p0.length - j)).all (v_hin p0 p1 f)) (Nat.zero_le _) (by omega) ?_ ?_ () trivial
 ·rintro t _
  rw [Nat.sub_self]
  simp only [sp_Zh_0,st_Zh_0,fM,decide_eq_false (Int.lt_irrefl (p0.length:Int)),cond_false]
  refine ⟨?_,by first | rfl | trivial⟩
  and_intros
  all_goals first
   | (intro h; cases h; done)
   | (intro p hp; cases hp)
 ·rintro j t h0 hj _
  have hw1:IntKind.i64.wrap ((j:Int) + 1)=((j + 1:Nat):Int) := wrap_id (by omega) (by omega)
  have hw2:IntKind.i64.wrap ((j:Int) + (f:Int))=((j + f:Nat):Int) := by rw [wrap_id (by omega) (by omega)]; omega
  have hd:decide ((j:Int) < (p0.length:Int))=true := decide_eq_true (by omega)
  have hv:s_Z6 (p1.getD (j + f) 0) (p0.getD j (0,0)).1 (p0.getD j (0,0)).2 = v_hin p0 p1 f j := rfl
  simp only [sp_Zh_0,st_Zh_0,fM,hd,hw1,hw2,cond_true,Int.toNat_natCast,hv,v_all_step hj]
  refine ⟨?_,?_⟩
  ·and_intros
   all_goals first
    | (intro p hp; cases hp; done)
    | (intros; omega)
  ·cases v_hin p0 p1 f j
   ·exact .inr rfl
   ·exact .inl ⟨(),by first | rfl | trivial,trivial,by rw [Bool.true_and]⟩
abbrev t_Zh (p0:gC) (p1:gF) (p2:Int):Bool := v_hold p0 p1 p2
abbrev qre_Zh (p0:gC) (p1:gF) (p2:Int):List Prop := [p0.length≤1000000,p1.length≤1000000,0≤p2∧p2≤1000000]
theorem pp_Zh (p0:gC) (p1:gF) (p2:Int) (hq:∀ p∈qre_Zh p0 p1 p2,p):∀ p∈pre_Zh p0 p1 p2,p := by
 obtain ⟨h1,h2,h3,_⟩ := conj_of hq
 obtain ⟨f,rfl⟩ : ∃ f:Nat,p2 = f := ⟨p2.toNat,by omega⟩
 have w1:IntKind.i64.wrap (2 * (f:Int))=2 * (f:Int) := wrap_id (by omega) (by omega)
 have w2:IntKind.i64.wrap ((p1.length:Int) - 2 * (f:Int))=(p1.length:Int) - 2 * (f:Int) := wrap_id (by omega) (by omega)
 simp only [pre_Zh,fM,w1,w2]
 exact ⟨fun e => (l_Zh_0 p0 p1 f h1 h2 ((bne_eq_false_iff_eq ..).1 e)).1,by simp⟩
theorem tt_Zh (p0:gC) (p1:gF) (p2:Int) (hq:∀ p∈qre_Zh p0 p1 p2,p):s_Zh p0 p1 p2 = t_Zh p0 p1 p2 := by
 obtain ⟨h1,h2,h3,_⟩ := conj_of hq
 obtain ⟨f,rfl⟩ : ∃ f:Nat,p2 = f := ⟨p2.toNat,by omega⟩
 have w1:IntKind.i64.wrap (2 * (f:Int))=2 * (f:Int) := wrap_id (by omega) (by omega)
 have w2:IntKind.i64.wrap ((p1.length:Int) - 2 * (f:Int))=(p1.length:Int) - 2 * (f:Int) := wrap_id (by omega) (by omega)
 unfold s_Zh t_Zh v_hold
 rw [w1,w2,Int.toNat_natCast]
 cases c:((p0.length:Int) != (p1.length:Int) - 2 * (f:Int))
 ·rw [cond_false,cond_false]
  exact (l_Zh_0 p0 p1 f h1 h2 ((bne_eq_false_iff_eq ..).1 c)).2
 ·rfl

abbrev con_Zh:Con := ⟨P_Zh,R_Zh,fun x => qre_Zh x.1 x.2.1 x.2.2,fun x => t_Zh x.1 x.2.1 x.2.2⟩
theorem ok_Zh:ConOk Tryd.prog 9 con_Zh := okG k_Zh e_Zh hC_Zh fun x hx => tf_of (w_Zh_eq x.1 x.2.1 x.2.2 _) (d_Zh x.1 x.2.1 x.2.2 _ (pp_Zh x.1 x.2.1 x.2.2 hx) (tt_Zh x.1 x.2.1 x.2.2 hx))
def C_Z13:Cons := [(5,[],con_Z6)]
theorem hC_Z13:ConsOk Tryd.prog C_Z13 := cC ok_Z6 <| ConsOk.nil
def w_Z13 (p0:gG) (p1:Int) (K:Int→Prop):Prop := ((((!(s_Z6 p0.1 (IntKind.i64.wrap (zz0 - p1)) p1))=false) →((!(s_Z6 p0.1 (IntKind.i64.wrap (zz0 - p1)) p1))=(!(s_Z6 p0.1 (IntKind.i64.wrap (zz0 - p1)) p1)))) ∧((((!(s_Z6 p0.1 (IntKind.i64.wrap (zz0 - p1)) p1))=false) →((!(s_Z6 p0.1 (IntKind.i64.wrap (zz0 - p1)) p1))=(!(s_Z6 p0.1 (IntKind.i64.wrap (zz0 - p1)) p1)))) ∧((((!(s_Z6 p0.1 (IntKind.i64.wrap (zz0 - p1)) p1))=false) →((!(s_Z6 p0.1 (IntKind.i64.wrap (zz0 - p1)) p1))=(!(s_Z6 p0.1 (IntKind.i64.wrap (zz0 - p1)) p1)))) ∧((((!(s_Z6 p0.1 (IntKind.i64.wrap (zz0 - p1)) p1))=false) →((!(s_Z6 p0.1 (IntKind.i64.wrap (zz0 - p1)) p1))=(!(s_Z6 p0.1 (IntKind.i64.wrap (zz0 - p1)) p1)))) ∧((((!(s_Z6 p0.1 (IntKind.i64.wrap (zz0 - p1)) p1))=false) →((!(s_Z6 p0.1 (IntKind.i64.wrap (zz0 - p1)) p1))=(!(s_Z6 p0.1 (IntKind.i64.wrap (zz0 - p1)) p1)))) ∧((((!(s_Z6 p0.1 (IntKind.i64.wrap (zz0 - p1)) p1))=false) →((!(s_Z6 p0.1 (IntKind.i64.wrap (zz0 - p1)) p1))=(!(s_Z6 p0.1 (IntKind.i64.wrap (zz0 - p1)) p1)))) ∧(((!(s_Z6 p0.1 (IntKind.i64.wrap (zz0 - p1)) p1))=(!(s_Z6 p0.1 (IntKind.i64.wrap (zz0 - p1)) p1))) ∧((((cond (!(s_Z6 p0.1 (IntKind.i64.wrap (zz0 - p1)) p1)) true (!(s_Z6 p0.2 (IntKind.i64.wrap (zz0 - p1)) p1)))=true) →(K (2:Int))) ∧(((cond (!(s_Z6 p0.1 (IntKind.i64.wrap (zz0 - p1)) p1)) true (!(s_Z6 p0.2 (IntKind.i64.wrap (zz0 - p1)) p1)))=false) →((((decide (p0.1 > p0.2))=true) →(K (9:Int))) ∧(((decide (p0.1 > p0.2))=false) →(K zz0))))))))))))
theorem w_Z13_eq (p0:gG) (p1:Int) (K:Int→Prop):tfn F_Z13 A_Z13 C_Z13 P_Z13 R_Z13 (p0,p1) K = w_Z13 p0 p1 K := by kernel_rfl
def s_Z13 (p0:gG) (p1:Int):Int := (cond (cond (!(s_Z6 p0.1 (IntKind.i64.wrap ((0:Int) - p1)) p1)) true (!(s_Z6 p0.2 (IntKind.i64.wrap ((0:Int) - p1)) p1))) (2:Int) (cond (decide (p0.1 > p0.2)) (9:Int) (0:Int)))
abbrev pre_Z13 (_p0:gG) (_p1:Int):List Prop := []
theorem d_Z13 (p0:gG) (p1:Int) (K:Int→Prop) (_hp:∀ p∈pre_Z13 p0 p1,p) (h:K (s_Z13 p0 p1)):w_Z13 p0 p1 K := by
 unfold w_Z13
 unfold s_Z13 at h
 exact ⟨rf,rf,rf,rf,rf,rf,rfl,(br' h (fun e0 h => h)
  (fun e0 h => (br' h (fun e1 h => h)
  (fun e1 h => h))))⟩
theorem tx_eqw {n lo hi:Int}:s_Z6 n lo hi = s_Zl n lo hi := rfl
abbrev t_Z13 (p0:gG) (p1:Int):Int := s_Zg p0 p1
abbrev qre_Z13 (_:gG) (_:Int):List Prop := []
theorem pp_Z13 (p0:gG) (p1:Int) (_:∀ p∈qre_Z13 p0 p1,p):∀ p∈pre_Z13 p0 p1,p := by intro p hp; simp at hp
theorem tt_Z13 (p0:gG) (p1:Int) (_:∀ p∈qre_Z13 p0 p1,p):s_Z13 p0 p1 = t_Z13 p0 p1 := by
 unfold s_Z13 t_Z13 s_Zg s_Z9
 simp only [tx_eqw]
 rcases Int.lt_or_le p0.2 p0.1 with h | h
 ·have h' : ¬ p0.1≤p0.2 := by omega
  cases s_Zl p0.1 (IntKind.i64.wrap (0 - p1)) p1 <;> cases s_Zl p0.2 (IntKind.i64.wrap (0 - p1)) p1 <;> simp [s_Z7,v_first,h,h']
 ·have h' : ¬ p0.2 < p0.1 := by omega
  cases s_Zl p0.1 (IntKind.i64.wrap (0 - p1)) p1 <;> cases s_Zl p0.2 (IntKind.i64.wrap (0 - p1)) p1 <;> simp [s_Z7,v_first,h,h']

abbrev con_Z13:Con := ⟨P_Z13,R_Z13,fun x => qre_Z13 x.1 x.2,fun x => t_Z13 x.1 x.2⟩
theorem ok_Z13:ConOk Tryd.prog 45 con_Z13 := okG k_Z13 e_Z13 hC_Z13 fun x hx => tf_of (w_Z13_eq x.1 x.2 _) (d_Z13 x.1 x.2 _ (pp_Z13 x.1 x.2 hx) (tt_Z13 x.1 x.2 hx))
def C_Zm:Cons := [(45,[],con_Z13)]
theorem hC_Zm:ConsOk Tryd.prog C_Zm := cC ok_Z13 <| ConsOk.nil
def w_Zm (p0:gC) (K:(Int×Int)→Prop):Prop := ((((decide ((p0.length:Int) > 64))=true) →(K (zz0,(8:Int)))) ∧(((decide ((p0.length:Int) > 64))=false) →(∃ n0,(loopP (fun (y1:Int) k2 => ((((decide (y1 < (p0.length:Int)))=true) →((zz0≤y1) ∧((y1 < (p0.length:Int)) ∧(((((s_Zg (p0.getD y1.toNat (zz0,zz0)) (1000000:Int)) != 0)=true) →(K (y1,(s_Zg (p0.getD y1.toNat (zz0,zz0)) (1000000:Int))))) ∧((((s_Zg (p0.getD y1.toNat (zz0,zz0)) (1000000:Int)) != 0)=false) →(k2 (IntKind.i64.wrap (y1 + 1)))))))) ∧(((decide (y1 < (p0.length:Int)))=false) →(K (zz0,zz0))))) n0 zz0))))
theorem w_Zm_eq (p0:gC) (K:(Int×Int)→Prop):tfn F_Zm A_Zm C_Zm P_Zm R_Zm p0 K = w_Zm p0 K := by kernel_rfl
def st_Zm_0 (p0:gC) (y1:Int):Int ⊕ (Int×Int) := (cond (decide (y1 < (p0.length:Int))) (cond ((s_Zg (p0.getD y1.toNat (0,0)) (1000000:Int)) != 0) (Sum.inr (y1,(s_Zg (p0.getD y1.toNat (0,0)) (1000000:Int)))) (Sum.inl (IntKind.i64.wrap (y1 + 1)))) (Sum.inr (0,0)))
abbrev sp_Zm_0 (p0:gC) (y1:Int):List Prop := [(((decide (y1 < (p0.length:Int)))=true)→((0:Int)≤y1)),(((decide (y1 < (p0.length:Int)))=true)→(y1 < (p0.length:Int)))]
def s_Zm (p0:gC):(Int×Int) := (cond (decide ((p0.length:Int) > 64)) ((0:Int),(8:Int)) (lpv (0,0) (st_Zm_0 p0) (0:Int)))
abbrev pre_Zm (p0:gC):List Prop := [(((decide ((p0.length:Int) > 64))=false)→(OkL (st_Zm_0 p0) (sp_Zm_0 p0) (0:Int)))]
theorem d_Zm (p0:gC) (K:(Int×Int)→Prop) (hp:∀ p∈pre_Zm p0,p) (h:K (s_Zm p0)):w_Zm p0 K := by
 unfold w_Zm
 unfold s_Zm at h
 obtain ⟨hp0,_⟩ := conj_of hp
 exact (br' h (fun e0 h => h)
  (fun e0 h => (loop_gen (hp0 e0) h (fun y1 k1 hp h => by
 unfold st_Zm_0 at h; obtain ⟨hp0,hp1,_⟩ := conj_of hp
 exact (br' h (fun e2 h => ⟨(hp0 e2),(hp1 e2),(br' h (fun e3 h => h)
  (fun e3 h => h))⟩)
  (fun e2 h => h))))))
theorem l_Zm_0 (p0:gC) (hl:lenOk p0):OkL (st_Zm_0 p0) (sp_Zm_0 p0) 0∧lpv ((0:Int),(0:Int)) (st_Zm_0 p0) 0 = v_scan (fun i x => cond (s_Zg x 1000000 != 0) (some (i,s_Zg x 1000000)) none) ((0:Int),(0:Int)) 0 p0 := by
 refine scan_is p0 (0,0) (fun i x => cond (s_Zg x 1000000 != 0) (some (i,s_Zg x 1000000)) none) ((0:Int),(0:Int)) hl ?_ ?_
 ·refine ⟨by simp only [sp_Zm_0,fM,decide_eq_true_eq]; simp,by simp [st_Zm_0]⟩
 ·intro j hj
  have hj' : (j:Int) < p0.length := by omega
  refine ⟨by simp only [sp_Zm_0,fM,decide_eq_true_eq,Int.toNat_natCast]; simp <;> omega,?_⟩
  simp only [st_Zm_0,hj',decide_true,Int.toNat_natCast,cond_true,wrap_nat (show (j:Int)≤9223372036854775806 by unfold lenOk at hl; omega)]
  generalize p0.getD j (0,0)=x
  cases (s_Zg x 1000000 != 0) <;> rfl
abbrev t_Zm (p0:gC):Int×Int := v_heights p0
abbrev qre_Zm (_:gC):List Prop := []
theorem pp_Zm (p0:gC) (_:∀ p∈qre_Zm p0,p):∀ p∈pre_Zm p0,p := by
 simp only [pre_Zm,fM]
 refine ⟨fun h => (l_Zm_0 p0 (lenOk_le (n := 64) ?_ (by decide))).1,by simp⟩
 have := of_decide_eq_false h; omega
theorem tt_Zm (p0:gC) (_:∀ p∈qre_Zm p0,p):s_Zm p0 = t_Zm p0 := by
 unfold s_Zm t_Zm v_heights
 cases h:decide ((p0.length:Int) > 64)
 ·have := of_decide_eq_false h
  exact (l_Zm_0 p0 (lenOk_le (n := 64) (by omega) (by decide))).2
 ·rfl

abbrev con_Zm:Con := ⟨P_Zm,R_Zm,fun x => qre_Zm x,fun x => t_Zm x⟩
theorem ok_Zm:ConOk Tryd.prog 29 con_Zm := okG k_Zm e_Zm hC_Zm fun x hx => tf_of (w_Zm_eq x _) (d_Zm x _ (pp_Zm x hx) (tt_Zm x hx))
def C_Ze:Cons := [(29,[],con_Zm)]
theorem hC_Ze:ConsOk Tryd.prog C_Ze := cC ok_Zm <| ConsOk.nil
def w_Ze (p0:gC) (K:Int→Prop):Prop := (K (v_heights p0).2)
theorem w_Ze_eq (p0:gC) (K:Int→Prop):tfn F_Ze A_Ze C_Ze P_Ze R_Ze p0 K = w_Ze p0 K := by kernel_rfl
def s_Ze (p0:gC):Int := (v_heights p0).2
abbrev pre_Ze (_p0:gC):List Prop := []
theorem d_Ze (p0:gC) (K:Int→Prop) (_hp:∀ p∈pre_Ze p0,p) (h:K (s_Ze p0)):w_Ze p0 K := by
 unfold w_Ze
 unfold s_Ze at h
 exact h
abbrev con_Ze:Con := ⟨P_Ze,R_Ze,fun x => pre_Ze x,fun x => s_Ze x⟩
theorem ok_Ze:ConOk Tryd.prog 10 con_Ze := okG k_Ze e_Ze hC_Ze fun x hx => tf_of (w_Ze_eq x _) (d_Ze x _ hx rfl)
def C_Z5:Cons := [(24,[],con_Za),(25,[],con_Z7),(22,[],con_Z8),(30,ownMark,con_Z1e),(28,[],con_Zc),(26,[],con_Zl)]
theorem hC_Z5:ConsOk Tryd.prog C_Z5 := cC ok_Za <| cC ok_Z7 <| cC ok_Z8 <| ConsOk.consO ok_Z1e <| cC ok_Zc <| cC ok_Zl <| ConsOk.nil
abbrev q0_Z5 (p0:gC) := (v_lin (List.replicate (Int.toNat (p0.length:Int)) zz1) p0)
abbrev q1_Z5 (p0:gC) := ((s_Za p0) :: ((s_Z7 (decide ((p0.length:Int) > zz0)) (10:Int)) :: ([]:List Int)))
def w_Z5 (p0:gC) (K:((Int×Int)×(Int×Int))→Prop):Prop := ((lenOk (q1_Z5 p0)) ∧(((((v_first (q1_Z5 p0)) != zz0)=true) →(K ((zz0,zz0),(zz0,(v_first (q1_Z5 p0)))))) ∧((((v_first (q1_Z5 p0)) != zz0)=false) →(((List.length (zz1 :: ([]:List Int)))=1) ∧((zz0≤(p0.length:Int)) ∧(((p0.length:Int)≤1000000) ∧((v_linok (List.replicate (Int.toNat (p0.length:Int)) zz1) p0) ∧((((((q0_Z5 p0).1 == zz0) && (((q0_Z5 p0).2 == zz0) && true))=true) →(K ((q0_Z5 p0),(zz2,zz0)))) ∧(((((q0_Z5 p0).1 == zz0) && (((q0_Z5 p0).2 == zz0) && true))=false) →((((!(s_Zl zz0 (q0_Z5 p0).1 (q0_Z5 p0).2))=true) →(K ((q0_Z5 p0),(zz0,zz0)))) ∧(((!(s_Zl zz0 (q0_Z5 p0).1 (q0_Z5 p0).2))=false) →(K ((q0_Z5 p0),(zz1,zz0))))))))))))))
theorem w_Z5_eq (p0:gC) (K:((Int×Int)×(Int×Int))→Prop):tfn F_Z5 A_Z5 C_Z5 P_Z5 R_Z5 p0 K = w_Z5 p0 K := by kernel_rfl
def s_Z5 (p0:gC):((Int×Int)×(Int×Int)) := (cond ((v_first ((s_Za p0) :: ((s_Z7 (decide ((p0.length:Int) > 0)) (10:Int)) :: ([]:List Int)))) != 0) ((0,0),((0:Int),(v_first ((s_Za p0) :: ((s_Z7 (decide ((p0.length:Int) > 0)) (10:Int)) :: ([]:List Int)))))) (cond (((v_lin (List.replicate (Int.toNat (p0.length:Int)) (1:Int)) p0).1 == 0) && (((v_lin (List.replicate (Int.toNat (p0.length:Int)) (1:Int)) p0).2 == 0) && true)) ((v_lin (List.replicate (Int.toNat (p0.length:Int)) (1:Int)) p0),((2:Int),(0:Int))) (cond (!(s_Zl (0:Int) (v_lin (List.replicate (Int.toNat (p0.length:Int)) (1:Int)) p0).1 (v_lin (List.replicate (Int.toNat (p0.length:Int)) (1:Int)) p0).2)) ((v_lin (List.replicate (Int.toNat (p0.length:Int)) (1:Int)) p0),(0,0)) ((v_lin (List.replicate (Int.toNat (p0.length:Int)) (1:Int)) p0),((1:Int),(0:Int))))))
abbrev pre_Z5 (p0:gC):List Prop := [((((v_first ((s_Za p0) :: ((s_Z7 (decide ((p0.length:Int) > 0)) (10:Int)) :: ([]:List Int)))) != 0)=false)→((List.length ((1:Int) :: ([]:List Int)))=1)),((((v_first ((s_Za p0) :: ((s_Z7 (decide ((p0.length:Int) > 0)) (10:Int)) :: ([]:List Int)))) != 0)=false)→((0:Int)≤(p0.length:Int))),((((v_first ((s_Za p0) :: ((s_Z7 (decide ((p0.length:Int) > 0)) (10:Int)) :: ([]:List Int)))) != 0)=false)→((p0.length:Int)≤1000000)),((((v_first ((s_Za p0) :: ((s_Z7 (decide ((p0.length:Int) > 0)) (10:Int)) :: ([]:List Int)))) != 0)=false)→(v_linok (List.replicate (Int.toNat (p0.length:Int)) (1:Int)) p0))]
theorem d_Z5 (p0:gC) (K:((Int×Int)×(Int×Int))→Prop) (hp:∀ p∈pre_Z5 p0,p) (h:K (s_Z5 p0)):w_Z5 p0 K := by
 unfold w_Z5
 unfold s_Z5 at h
 obtain ⟨hp0,hp1,hp2,hp3,_⟩ := conj_of hp
 exact ⟨(lenOk_of 2 rfl (by decide)),(br' h (fun e0 h => h)
  (fun e0 h => ⟨(hp0 e0),(hp1 e0),(hp2 e0),(hp3 e0),(br' h (fun e1 h => h)
  (fun e1 h => (br' h (fun e2 h => h)
  (fun e2 h => h))))⟩))⟩
/-- The closure,and the answer,out of the sums. -/
def v_clo (s:gG):(Int×Int)×Int := (s,cond ((s.1 == 0) && ((s.2 == 0) && true)) 2 (cond (!(s_Zl 0 s.1 s.2)) 0 1))
def v_ones (p0:gC):Int×Int := v_lin (List.replicate p0.length 1) p0
/-- The error of a closure. -/
def v_clerr (p0:gC):Int := v_first [s_Za p0,s_Z7 (decide ((p0.length:Int) > 0)) 10]
abbrev t_Z5 (p0:gC):(Int×Int)×(Int×Int) := cond (v_clerr p0 != 0) ((0,0),(0,v_clerr p0)) ((v_clo (v_ones p0)).1,((v_clo (v_ones p0)).2,0))
abbrev qre_Z5 (_:gC):List Prop := []
theorem pp_Z5 (p0:gC) (_:∀ p∈qre_Z5 p0,p):∀ p∈pre_Z5 p0,p := by
 simp only [pre_Z5,fM,Int.toNat_natCast]
 have key:(v_clerr p0 != 0)=false→v_hok p0 := fun h => tx_heights (show (v_heights p0).2 = 0 from (v_first0 (bne0' h)).1)
 refine ⟨fun _ => rfl,fun _ => by omega,fun h => by have := (key h).len; omega,fun h => ?_,by simp⟩
 have hk := key h
 have hl := hk.len
 exact ⟨by simp,by simp; omega,fun x hx => by have := List.eq_of_mem_replicate hx; omega,fun x hx => ⟨(hk.all x hx).1,(hk.all x hx).2.1⟩⟩
theorem tt_Z5 (p0:gC) (_:∀ p∈qre_Z5 p0,p):s_Z5 p0 = t_Z5 p0 := by
 unfold s_Z5
 rw [Int.toNat_natCast]
 show cond (v_clerr p0 != 0) _ (cond (((v_ones p0).1 == 0) && (((v_ones p0).2 == 0) && true)) (v_ones p0,(2,0)) (cond (!(s_Zl 0 (v_ones p0).1 (v_ones p0).2)) (v_ones p0,(0,0)) (v_ones p0,(1,0))))=_
 unfold t_Z5 v_clo
 cases (v_clerr p0 != 0)
 ·cases (((v_ones p0).1 == 0) && (((v_ones p0).2 == 0) && true)) <;> cases s_Zl 0 (v_ones p0).1 (v_ones p0).2 <;> rfl
 ·rfl

abbrev con_Z5:Con := ⟨P_Z5,R_Z5,fun x => qre_Z5 x,fun x => t_Z5 x⟩
theorem ok_Z5:ConOk Tryd.prog 11 con_Z5 := okG k_Z5 e_Z5 hC_Z5 fun x hx => tf_of (w_Z5_eq x _) (d_Z5 x _ (pp_Z5 x hx) (tt_Z5 x hx))
def C_Z1:Cons := [(8,ownMark,con_Z11)]
theorem hC_Z1:ConsOk Tryd.prog C_Z1 := ConsOk.consO ok_Z11 <| ConsOk.nil
def w_Z1 (p0:gF) (K:(List Int)→Prop):Prop := ((p0.length≤1000000) ∧(K p0))
theorem w_Z1_eq (p0:gF) (K:(List Int)→Prop):tfn F_Z1 A_Z1 C_Z1 P_Z1 R_Z1 p0 K = w_Z1 p0 K := by kernel_rfl
def s_Z1 (p0:gF):(List Int) := p0
abbrev pre_Z1 (p0:gF):List Prop := [(p0.length≤1000000)]
theorem d_Z1 (p0:gF) (K:(List Int)→Prop) (hp:∀ p∈pre_Z1 p0,p) (h:K (s_Z1 p0)):w_Z1 p0 K := by
 unfold w_Z1
 unfold s_Z1 at h
 obtain ⟨hp0,_⟩ := conj_of hp
 exact ⟨(hp0),h⟩
abbrev con_Z1:Con := ⟨P_Z1,R_Z1,fun x => pre_Z1 x,fun x => s_Z1 x⟩
theorem ok_Z1:ConOk Tryd.prog 13 con_Z1 := okG k_Z1 e_Z1 hC_Z1 fun x hx => tf_of (w_Z1_eq x _) (d_Z1 x _ hx rfl)
def C_Z15:Cons := []
theorem hC_Z15:ConsOk Tryd.prog C_Z15 := ConsOk.nil
def w_Z15 (p0:gC) (K:(List (Int×Int))→Prop):Prop := (((((List.length ([]:List (Int×Int))) + p0.length) * 16)≤140737488355328) ∧(K (([]:List (Int×Int)) ++ p0)))
theorem w_Z15_eq (p0:gC) (K:(List (Int×Int))→Prop):tfn F_Z15 A_Z15 C_Z15 P_Z15 R_Z15 p0 K = w_Z15 p0 K := by kernel_rfl
def s_Z15 (p0:gC):(List (Int×Int)) := (([]:List (Int×Int)) ++ p0)
abbrev pre_Z15 (p0:gC):List Prop := [((((List.length ([]:List (Int×Int))) + p0.length) * 16)≤140737488355328)]
theorem d_Z15 (p0:gC) (K:(List (Int×Int))→Prop) (hp:∀ p∈pre_Z15 p0,p) (h:K (s_Z15 p0)):w_Z15 p0 K := by
 unfold w_Z15
 unfold s_Z15 at h
 obtain ⟨hp0,_⟩ := conj_of hp
 exact ⟨(hp0),h⟩
abbrev t_Z15 (p0:gC):List (Int×Int) := p0
abbrev qre_Z15 (p0:gC):List Prop := [p0.length≤1000000]
theorem pp_Z15 (p0:gC) (hq:∀ p∈qre_Z15 p0,p):∀ p∈pre_Z15 p0,p := by
 simp only [pre_Z15,fM]
 have := (conj_of hq).1
 exact ⟨by simp; omega,by simp⟩
theorem tt_Z15 (p0:gC) (_hq:∀ p∈qre_Z15 p0,p):s_Z15 p0 = t_Z15 p0 := by
 rfl

abbrev con_Z15:Con := ⟨P_Z15,R_Z15,fun x => qre_Z15 x,fun x => t_Z15 x⟩
theorem ok_Z15:ConOk Tryd.prog 14 con_Z15 := okG k_Z15 e_Z15 hC_Z15 fun x hx => tf_of (w_Z15_eq x _) (d_Z15 x _ (pp_Z15 x hx) (tt_Z15 x hx))
def C_Z17:Cons := [(48,ownMark,con_Z1c),(49,nMark 1,con_Zb)]
theorem hC_Z17:ConsOk Tryd.prog C_Z17 := ConsOk.consO ok_Z1c <| ConsOk.consN ok_Zb <| ConsOk.nil
def w_Z17 (p0:gF) (K:(List Int)→Prop):Prop := ((p0.length≤1000000) ∧((0 < p0.length) ∧((p0.length≤1000000) ∧((zz0≤1) ∧((zz1≤(p0.length:Int)) ∧(((((List.length (v_rev p0)) + (List.length (List.drop (Int.toNat zz1) p0))) * 8)≤140737488355328) ∧(K ((v_rev p0) ++ (List.drop (Int.toNat zz1) p0)))))))))
theorem w_Z17_eq (p0:gF) (K:(List Int)→Prop):tfn F_Z17 A_Z17 C_Z17 P_Z17 R_Z17 p0 K = w_Z17 p0 K := by kernel_rfl
def s_Z17 (p0:gF):(List Int) := ((v_rev p0) ++ (List.drop (Int.toNat (1:Int)) p0))
abbrev pre_Z17 (p0:gF):List Prop := [(p0.length≤1000000),(0 < p0.length),((1:Int)≤(p0.length:Int)),((((List.length (v_rev p0)) + (List.length (List.drop (Int.toNat (1:Int)) p0))) * 8)≤140737488355328)]
theorem d_Z17 (p0:gF) (K:(List Int)→Prop) (hp:∀ p∈pre_Z17 p0,p) (h:K (s_Z17 p0)):w_Z17 p0 K := by
 unfold w_Z17
 unfold s_Z17 at h
 obtain ⟨hp0,hp1,hp2,hp3,_⟩ := conj_of hp
 exact ⟨(hp0),(hp1),(hp0),(od rfl),(hp2),(hp3),h⟩
abbrev t_Z17 (p0:gF):List Int := v_both p0
abbrev qre_Z17 (p0:gF):List Prop := [1≤p0.length∧p0.length≤1000000]
theorem pp_Z17 (p0:gF) (hq:∀ p∈qre_Z17 p0,p):∀ p∈pre_Z17 p0,p := by
 have h := (conj_of hq).1
 simp only [pre_Z17,fM]
 exact ⟨h.2,by omega,by omega,by simp [v_rev]; omega,by simp⟩
theorem tt_Z17 (p0:gF) (_hq:∀ p∈qre_Z17 p0,p):s_Z17 p0 = t_Z17 p0 := by
 rfl

abbrev con_Z17:Con := ⟨P_Z17,R_Z17,fun x => qre_Z17 x,fun x => t_Z17 x⟩
theorem ok_Z17:ConOk Tryd.prog 32 con_Z17 := okG k_Z17 e_Z17 hC_Z17 fun x hx => tf_of (w_Z17_eq x _) (d_Z17 x _ (pp_Z17 x hx) (tt_Z17 x hx))
def C_Zv:Cons := []
theorem hC_Zv:ConsOk Tryd.prog C_Zv := ConsOk.nil
def w_Zv (p0:Int) (p1:Int) (K:Int→Prop):Prop := ((p1 ≠ zz0) ∧((((decide ((IntKind.i64.wrap ((IntKind.i64.wrap (Int.tdiv p0 p1)) * p1)) > p0))=true) →(K (IntKind.i64.wrap ((IntKind.i64.wrap (Int.tdiv p0 p1)) - 1)))) ∧(((decide ((IntKind.i64.wrap ((IntKind.i64.wrap (Int.tdiv p0 p1)) * p1)) > p0))=false) →(K (IntKind.i64.wrap (Int.tdiv p0 p1))))))
theorem w_Zv_eq (p0:Int) (p1:Int) (K:Int→Prop):tfn F_Zv A_Zv C_Zv P_Zv R_Zv (p0,p1) K = w_Zv p0 p1 K := by kernel_rfl
def s_Zv (p0:Int) (p1:Int):Int := (cond (decide ((IntKind.i64.wrap ((IntKind.i64.wrap (Int.tdiv p0 p1)) * p1)) > p0)) (IntKind.i64.wrap ((IntKind.i64.wrap (Int.tdiv p0 p1)) - 1)) (IntKind.i64.wrap (Int.tdiv p0 p1)))
abbrev pre_Zv (_p0:Int) (p1:Int):List Prop := [(p1 ≠ (0:Int))]
theorem d_Zv (p0:Int) (p1:Int) (K:Int→Prop) (hp:∀ p∈pre_Zv p0 p1,p) (h:K (s_Zv p0 p1)):w_Zv p0 p1 K := by
 unfold w_Zv
 unfold s_Zv at h
 obtain ⟨hp0,_⟩ := conj_of hp
 exact ⟨(hp0),(br' h (fun e0 h => h)
  (fun e0 h => h))⟩
theorem tx_floor {n b:Int} (hn:v_fit n) (hb:0 < b):s_Zv n b = n / b := by
 have h1:(n.tdiv b).natAbs≤n.natAbs := by
  rw [Int.natAbs_tdiv]; exact Nat.div_le_self _ _
 have h2 := v_tmod_lt (a := n) (b := b) (by omega)
 have h3 := Int.mul_tdiv_add_tmod n b
 have h4:(b * n.tdiv b).natAbs≤n.natAbs := by
  rw [Int.natAbs_mul,Int.natAbs_tdiv]; exact Nat.mul_div_le _ _
 unfold v_fit at hn
 unfold s_Zv
 rw [wrap_id (n := n.tdiv b) (by omega) (by omega),Int.mul_comm (n.tdiv b) b,wrap_id (n := b * n.tdiv b) (by omega) (by omega)]
 have := floor_is hn hb
 rw [wrap_id (n := n.tdiv b) (by omega) (by omega)] at this
 rw [← this]
 congr 1
 rw [decide_eq_decide]; omega
abbrev t_Zv (p0 p1:Int):Int := p0 / p1
abbrev qre_Zv (p0 p1:Int):List Prop := [v_fit p0,0 < p1]
theorem pp_Zv (p0 p1:Int) (hq:∀ p∈qre_Zv p0 p1,p):∀ p∈pre_Zv p0 p1,p := by
 simp only [pre_Zv,fM]
 have := (conj_of hq).2.1
 exact ⟨by omega,by simp⟩
theorem tt_Zv (p0 p1:Int) (hq:∀ p∈qre_Zv p0 p1,p):s_Zv p0 p1 = t_Zv p0 p1 := tx_floor (conj_of hq).1 (conj_of hq).2.1

abbrev con_Zv:Con := ⟨P_Zv,R_Zv,fun x => qre_Zv x.1 x.2,fun x => t_Zv x.1 x.2⟩
theorem ok_Zv:ConOk Tryd.prog 34 con_Zv := okG k_Zv e_Zv hC_Zv fun x hx => tf_of (w_Zv_eq x.1 x.2 _) (d_Zv x.1 x.2 _ (pp_Zv x.1 x.2 hx) (tt_Zv x.1 x.2 hx))
def C_Zw:Cons := [(34,[],con_Zv)]
theorem hC_Zw:ConsOk Tryd.prog C_Zw := cC ok_Zv <| ConsOk.nil
def w_Zw (p0:Int) (p1:Int) (K:Int→Prop):Prop := ((v_fit (IntKind.i64.wrap (zz0 - p0))) ∧((zz0 < p1) ∧(K (IntKind.i64.wrap (zz0 - ((IntKind.i64.wrap (zz0 - p0)) / p1))))))
theorem w_Zw_eq (p0:Int) (p1:Int) (K:Int→Prop):tfn F_Zw A_Zw C_Zw P_Zw R_Zw (p0,p1) K = w_Zw p0 p1 K := by kernel_rfl
def s_Zw (p0:Int) (p1:Int):Int := (IntKind.i64.wrap ((0:Int) - ((IntKind.i64.wrap ((0:Int) - p0)) / p1)))
abbrev pre_Zw (p0:Int) (p1:Int):List Prop := [(v_fit (IntKind.i64.wrap ((0:Int) - p0))),((0:Int) < p1)]
theorem d_Zw (p0:Int) (p1:Int) (K:Int→Prop) (hp:∀ p∈pre_Zw p0 p1,p) (h:K (s_Zw p0 p1)):w_Zw p0 p1 K := by
 unfold w_Zw
 unfold s_Zw at h
 obtain ⟨hp0,hp1,_⟩ := conj_of hp
 exact ⟨(hp0),(hp1),h⟩
/-- A quotient rounded up. -/
def v_ceil (a b:Int):Int := -((-a) / b)
theorem tx_Zw {n b:Int} (hn:v_fit n) (_hb:0 < b):s_Zw n b = v_ceil n b := by
 unfold v_fit at hn
 unfold s_Zw v_ceil
 rw [wrap_id (n := 0 - n) (by omega) (by omega),show (0:Int) - n = -n by omega]
 have h:((-n) / b).natAbs≤(-n).natAbs := Int.natAbs_ediv_le_natAbs _ _
 have h2 : -n / b≤9223372036854775807 := by omega
 have h3 : -9223372036854775808≤-n / b := by omega
 rw [wrap_id (n := 0 - -n / b) (by omega) (by omega)]; omega
abbrev t_Zw (p0 p1:Int):Int := v_ceil p0 p1
abbrev qre_Zw (p0 p1:Int):List Prop := [v_fit p0,0 < p1]
theorem pp_Zw (p0 p1:Int) (hq:∀ p∈qre_Zw p0 p1,p):∀ p∈pre_Zw p0 p1,p := by
 obtain ⟨h1,h2,_⟩ := conj_of hq
 unfold v_fit at h1
 simp only [pre_Zw,fM,wrap_id (n := 0 - p0) (by omega) (by omega)]
 exact ⟨by unfold v_fit; omega,h2,by simp⟩
theorem tt_Zw (p0 p1:Int) (hq:∀ p∈qre_Zw p0 p1,p):s_Zw p0 p1 = t_Zw p0 p1 := tx_Zw (conj_of hq).1 (conj_of hq).2.1

abbrev con_Zw:Con := ⟨P_Zw,R_Zw,fun x => qre_Zw x.1 x.2,fun x => t_Zw x.1 x.2⟩
theorem ok_Zw:ConOk Tryd.prog 35 con_Zw := okG k_Zw e_Zw hC_Zw fun x hx => tf_of (w_Zw_eq x.1 x.2 _) (d_Zw x.1 x.2 _ (pp_Zw x.1 x.2 hx) (tt_Zw x.1 x.2 hx))
def C_Z3:Cons := [(31,[],con_Zt),(24,[],con_Za),(22,[],con_Z8),(32,[],con_Z17),(33,[],con_Zn),(27,[],con_Z1a),(44,itMark,con_Z1f),(28,[],con_Zc),(34,[],con_Zv),(35,[],con_Zw)]
theorem hC_Z3:ConsOk Tryd.prog C_Z3 := cC ok_Zt <| cC ok_Za <| cC ok_Z8 <| cC ok_Z17 <| cC ok_Zn <| cC ok_Z1a <| ConsOk.consI ok_Z1f <| cC ok_Zc <| cC ok_Zv <| cC ok_Zw <| ConsOk.nil
def w_Z3 (p0:gF) (p1:gC) (K:((List (Int×Int))×Int)→Prop):Prop := ((lenOk p0) ∧((lenOk ((v_filerr p0) :: ((s_Za p1) :: ([]:List Int)))) ∧(((((v_first ((v_filerr p0) :: ((s_Za p1) :: ([]:List Int)))) != 0)=true) →(K (([]:List (Int×Int)),(v_first ((v_filerr p0) :: ((s_Za p1) :: ([]:List Int))))))) ∧((((v_first ((v_filerr p0) :: ((s_Za p1) :: ([]:List Int)))) != 0)=false) →(((1≤p0.length) ∧(p0.length≤1000000)) ∧((v_fw p0) ∧((zz1≤(((v_both p0).length:Nat):Int)) ∧(((((v_both p0).length:Nat):Int)≤1000000) ∧((p1.length≤1000000) ∧(RngP (fun (y0:gC) (z1:(Int×(List (Int×Int)))) k2 => ((v_linok (v_both p0) z1.2) ∧((v_fit (v_lin (v_both p0) z1.2).1) ∧((zz0 < (v_fsum p0)) ∧((v_fit (v_lin (v_both p0) z1.2).2) ∧((zz0 < (v_fsum p0)) ∧((((y0.length + (List.length ((((v_lin (v_both p0) z1.2).1 / (v_fsum p0)),(v_ceil (v_lin (v_both p0) z1.2).2 (v_fsum p0))) :: ([]:List (Int×Int))))) * 16)≤140737488355328) ∧(k2 (y0 ++ ((((v_lin (v_both p0) z1.2).1 / (v_fsum p0)),(v_ceil (v_lin (v_both p0) z1.2).2 (v_fsum p0))) :: ([]:List (Int×Int)))))))))))) (fun (s3:gC) => (K (s3,zz0))) (v_windows p1 (((v_both p0).length:Nat):Int)) ([]:List (Int×Int))))))))))))
theorem w_Z3_eq (p0:gF) (p1:gC) (K:((List (Int×Int))×Int)→Prop):tfn F_Z3 A_Z3 C_Z3 P_Z3 R_Z3 (p0,p1) K = w_Z3 p0 p1 K := by kernel_rfl
def st_Z3_0 (p0:gF) (_p1:gC) (y1:gC) (z1:(Int×(List (Int×Int)))):(List (Int×Int)) ⊕ ((List (Int×Int))×Int) := (Sum.inl (y1 ++ ((((v_lin (v_both p0) z1.2).1 / (v_fsum p0)),(v_ceil (v_lin (v_both p0) z1.2).2 (v_fsum p0))) :: ([]:List (Int×Int)))))
abbrev sp_Z3_0 (p0:gF) (_p1:gC) (y1:gC) (z1:(Int×(List (Int×Int)))):List Prop := [(v_linok (v_both p0) z1.2),(v_fit (v_lin (v_both p0) z1.2).1),((0:Int) < (v_fsum p0)),(v_fit (v_lin (v_both p0) z1.2).2),(((y1.length + (List.length ((((v_lin (v_both p0) z1.2).1 / (v_fsum p0)),(v_ceil (v_lin (v_both p0) z1.2).2 (v_fsum p0))) :: ([]:List (Int×Int))))) * 16)≤140737488355328)]
def sf_Z3_0 (_p0:gF) (_p1:gC) (s1:gC):((List (Int×Int))×Int) := (s1,(0:Int))
abbrev sq_Z3_0 (_p0:gF) (_p1:gC) (_s1:gC):List Prop := []
def s_Z3 (p0:gF) (p1:gC):((List (Int×Int))×Int) := (cond ((v_first ((v_filerr p0) :: ((s_Za p1) :: ([]:List Int)))) != 0) (([]:List (Int×Int)),(v_first ((v_filerr p0) :: ((s_Za p1) :: ([]:List Int))))) (rngV (st_Z3_0 p0 p1) (sf_Z3_0 p0 p1) (v_windows p1 (((v_both p0).length:Nat):Int)) ([]:List (Int×Int))))
abbrev pre_Z3 (p0:gF) (p1:gC):List Prop := [(lenOk p0),((((v_first ((v_filerr p0) :: ((s_Za p1) :: ([]:List Int)))) != 0)=false)→((1≤p0.length)∧(p0.length≤1000000))),((((v_first ((v_filerr p0) :: ((s_Za p1) :: ([]:List Int)))) != 0)=false)→(v_fw p0)),((((v_first ((v_filerr p0) :: ((s_Za p1) :: ([]:List Int)))) != 0)=false)→((1:Int)≤(((v_both p0).length:Nat):Int))),((((v_first ((v_filerr p0) :: ((s_Za p1) :: ([]:List Int)))) != 0)=false)→((((v_both p0).length:Nat):Int)≤1000000)),((((v_first ((v_filerr p0) :: ((s_Za p1) :: ([]:List Int)))) != 0)=false)→(p1.length≤1000000)),((((v_first ((v_filerr p0) :: ((s_Za p1) :: ([]:List Int)))) != 0)=false)→(OkR (st_Z3_0 p0 p1) (sp_Z3_0 p0 p1) (sq_Z3_0 p0 p1) (v_windows p1 (((v_both p0).length:Nat):Int)) ([]:List (Int×Int))))]
theorem d_Z3 (p0:gF) (p1:gC) (K:((List (Int×Int))×Int)→Prop) (hp:∀ p∈pre_Z3 p0 p1,p) (h:K (s_Z3 p0 p1)):w_Z3 p0 p1 K := by
 unfold w_Z3
 unfold s_Z3 at h
 obtain ⟨hp0,hp1,hp2,hp3,hp4,hp5,hp6,_⟩ := conj_of hp
 exact ⟨(hp0),(lenOk_of 2 rfl (by decide)),(br' h (fun e0 h => h)
  (fun e0 h => ⟨(hp1 e0),(hp2 e0),(hp3 e0),(hp4 e0),(hp5 e0),(rng_gen (hp6 e0) h (fun y1 z1 k1 hp h => by
 unfold st_Z3_0 at h; obtain ⟨hp0,hp1,hp2,hp3,hp4,_⟩ := conj_of hp
 exact ⟨(hp0),(hp1),(hp2),(hp3),(hp2),(hp4),h⟩) (fun s1 hp h => by
 unfold sf_Z3_0 at h
 exact h))⟩))⟩
theorem v_lin_in {m:Int} (hm:0≤m):∀ (ws:gF) (xs:gC),(∀ w∈ws,-m≤w∧w≤m)→(∀ x∈xs,(-1000000≤x.1∧x.1≤1000000)∧(-1000000≤x.2∧x.2≤1000000))→(-(ws.length * (m * 1000000))≤(v_lin ws xs).1∧(v_lin ws xs).1≤ws.length * (m * 1000000))∧(-(ws.length * (m * 1000000))≤(v_lin ws xs).2∧(v_lin ws xs).2≤ws.length * (m * 1000000))
 | [],xs,_,_ => by simp [v_lin]
 | w :: ws,[],_,_ => by
  have h0:0≤m * 1000000 := by omega
  have:0≤((w :: ws).length:Int) * (m * 1000000) := Int.mul_nonneg (by omega) h0
  simp only [v_lin]; omega
 | w :: ws,x :: xs,hw,hx => by
  have ih := v_lin_in hm ws xs (fun y hy => hw y (by simp [hy])) (fun y hy => hx y (by simp [hy]))
  have h1 := v_prod (hw w (by simp)) (hx x (by simp)).1 hm
  have h2 := v_prod (hw w (by simp)) (hx x (by simp)).2 hm
  have e:((w :: ws).length:Int) * (m * 1000000)=ws.length * (m * 1000000) + m * 1000000 := by
   rw [List.length_cons,show ((ws.length + 1:Nat):Int)=(ws.length:Int) + 1 by omega,Int.add_mul,Int.one_mul]
  rw [e]
  simp only [v_lin]
  omega
theorem v_both_all {f:List Int} {m:Int} (h:∀ x∈f,-m≤x∧x≤m):∀ x∈v_both f,-m≤x∧x≤m := by
 intro x hx
 unfold v_both at hx
 rcases List.mem_append.1 hx with hx | hx
 ·exact h x (List.mem_reverse.1 hx)
 ·exact h x (List.mem_of_mem_drop hx)
theorem v_win_in {l:List (Int×Int)} {c:Nat} {z:Int×List (Int×Int)} (hz:z∈v_windows l c) (h1:1≤c):z.2.length = c∧(∀ x∈z.2,x∈l)∧0≤z.1∧z.1 + c≤l.length := by
 unfold v_windows at hz
 obtain ⟨k,hk,rfl⟩ := List.mem_map.1 hz
 rw [List.mem_range] at hk
 refine ⟨by simp only [List.length_take,List.length_drop]; omega,fun x hx => List.mem_of_mem_drop (List.mem_of_mem_take hx),by simp only; omega,by simp only; omega⟩
/-- A filtered list. -/
def v_fil (p0:gF) (p1:gC):List (Int×Int) := (v_windows p1 ((v_both p0).length:Nat)).map fun z => ((v_lin (v_both p0) z.2).1 / v_fsum p0,v_ceil (v_lin (v_both p0) z.2).2 (v_fsum p0))
theorem l_Z3 (p0:gF) (p1:gC) (h:v_fok p0) (hl:v_hok p1):OkR (st_Z3_0 p0 p1) (sp_Z3_0 p0 p1) (sq_Z3_0 p0 p1) (v_windows p1 ((v_both p0).length:Nat)) []∧rngV (st_Z3_0 p0 p1) (sf_Z3_0 p0 p1) (v_windows p1 ((v_both p0).length:Nat)) []=(v_fil p0 p1,0) := by
 have hlen := hl.len
 have h1 := h.one
 have h9 := h.nine
 have hb := v_both_len h1
 have hall := v_both_all h.all
 have key:∀ z,z∈v_windows p1 ((v_both p0).length:Nat)→v_linok (v_both p0) z.2∧v_fit (v_lin (v_both p0) z.2).1∧v_fit (v_lin (v_both p0) z.2).2 := by
  intro z hz
  obtain ⟨g1,g2,_⟩ := v_win_in hz (by omega)
  have gx:∀ x∈z.2,(-1000000≤x.1∧x.1≤1000000)∧(-1000000≤x.2∧x.2≤1000000) := fun x hx => ⟨(hl.all x (g2 x hx)).1,(hl.all x (g2 x hx)).2.1⟩
  have hi := v_lin_in (m := 100000) (by decide) (v_both p0) z.2 hall gx
  refine ⟨⟨by omega,by omega,fun x hx => by have := hall x hx; omega,gx⟩,?_,?_⟩ <;> unfold v_fit <;> omega
 have := rng_map (st := st_Z3_0 p0 p1) (sp := sp_Z3_0 p0 p1) (fin := sf_Z3_0 p0 p1) (fp := sq_Z3_0 p0 p1) (fun z => ((v_lin (v_both p0) z.2).1 / v_fsum p0,v_ceil (v_lin (v_both p0) z.2).2 (v_fsum p0))) (v_windows p1 ((v_both p0).length:Nat)) (by unfold v_windows; simp; omega) (fun y z _ => rfl) ?_ (by simp)
 ·exact this
 ·intro y z hz hy
  obtain ⟨g1,g2,g3⟩ := key z hz
  simp only [sp_Z3_0,fM]
  have hp := h.pos
  exact ⟨g1,g2,hp,g3,by simp; omega,by simp⟩
/-- The error of a filter and a list. -/
def v_flerr (p0:gF) (p1:gC):Int := v_first [v_filerr p0,s_Za p1]
theorem tx_flerr {p0:List Int} {p1:List (Int×Int)} (h:v_flerr p0 p1 = 0):v_fok p0∧v_hok p1 := by
 obtain ⟨h1,h⟩ := v_first0 h
 obtain ⟨h2,_⟩ := v_first0 h
 exact ⟨tx_fok h1,tx_heights (show (v_heights p1).2 = 0 from h2)⟩
abbrev t_Z3 (p0:gF) (p1:gC):List (Int×Int)×Int := cond (v_flerr p0 p1 != 0) ([],v_flerr p0 p1) (v_fil p0 p1,0)
abbrev qre_Z3 (p0:gF) (_:gC):List Prop := [lenOk p0]
theorem pp_Z3 (p0:gF) (p1:gC) (hq:∀ p∈qre_Z3 p0 p1,p):∀ p∈pre_Z3 p0 p1,p := by
 simp only [pre_Z3,fM]
 have key:(v_flerr p0 p1 != 0)=false→v_fok p0∧v_hok p1 := fun h => tx_flerr (bne0' h)
 have k1:(v_flerr p0 p1 != 0)=false→1≤p0.length∧p0.length≤9∧(v_both p0).length = 2 * p0.length - 1 := fun h => ⟨(key h).1.one,(key h).1.nine,v_both_len (key h).1.one⟩
 exact ⟨(conj_of hq).1,fun h => by have := k1 h; omega,fun h => (key h).1.tov_fw,fun h => by have := k1 h; omega,fun h => by have := k1 h; omega,fun h => by have := (key h).2.len; omega,fun h => (l_Z3 p0 p1 (key h).1 (key h).2).1,by simp⟩
theorem tt_Z3 (p0:gF) (p1:gC) (_:∀ p∈qre_Z3 p0 p1,p):s_Z3 p0 p1 = t_Z3 p0 p1 := by
 show cond (v_flerr p0 p1 != 0) _ _ = _
 unfold t_Z3
 cases h:(v_flerr p0 p1 != 0)
 ·obtain ⟨k1,k2⟩ := tx_flerr (bne0' h)
  exact (l_Z3 p0 p1 k1 k2).2
 ·rfl

abbrev con_Z3:Con := ⟨P_Z3,R_Z3,fun x => qre_Z3 x.1 x.2,fun x => t_Z3 x.1 x.2⟩
theorem ok_Z3:ConOk Tryd.prog 12 con_Z3 := okG k_Z3 e_Z3 hC_Z3 fun x hx => tf_of (w_Z3_eq x.1 x.2 _) (d_Z3 x.1 x.2 _ (pp_Z3 x.1 x.2 hx) (tt_Z3 x.1 x.2 hx))
def C_Zs:Cons := [(38,[],con_Z9)]
theorem hC_Zs:ConsOk Tryd.prog C_Zs := cC ok_Z9 <| ConsOk.nil
def w_Zs (p0:Int) (K:Bool→Prop):Prop := (K (!(s_Z9 p0 (100000:Int))))
theorem w_Zs_eq (p0:Int) (K:Bool→Prop):tfn F_Zs A_Zs C_Zs P_Zs R_Zs p0 K = w_Zs p0 K := by kernel_rfl
def s_Zs (p0:Int):Bool := (!(s_Z9 p0 (100000:Int)))
abbrev pre_Zs (_p0:Int):List Prop := []
theorem d_Zs (p0:Int) (K:Bool→Prop) (_hp:∀ p∈pre_Zs p0,p) (h:K (s_Zs p0)):w_Zs p0 K := by
 unfold w_Zs
 unfold s_Zs at h
 exact h
abbrev con_Zs:Con := ⟨P_Zs,R_Zs,fun x => pre_Zs x,fun x => s_Zs x⟩
theorem ok_Zs:ConOk Tryd.prog 37 con_Zs := okG k_Zs e_Zs hC_Zs fun x hx => tf_of (w_Zs_eq x _) (d_Zs x _ hx rfl)
def C_Zi:Cons := [(37,[],con_Zs)]
theorem hC_Zi:ConsOk Tryd.prog C_Zi := cC ok_Zs <| ConsOk.nil
def w_Zi (p0:gF) (_p1:PUnit) (K:Int→Prop):Prop := (∃ n0,(loopP (fun (y1:Int) k2 => ((((decide (y1 < (p0.length:Int)))=true) →((zz0≤y1) ∧((y1 < (p0.length:Int)) ∧((((s_Zs (p0.getD y1.toNat zz0))=true) →(K y1)) ∧(((s_Zs (p0.getD y1.toNat zz0))=false) →(k2 (IntKind.i64.wrap (y1 + 1)))))))) ∧(((decide (y1 < (p0.length:Int)))=false) →(K (-1:Int))))) n0 zz0))
theorem w_Zi_eq (p0:gF) (p1:PUnit) (K:Int→Prop):tfn F_Zi A_Zi C_Zi P_Zi R_Zi (p0,p1) K = w_Zi p0 p1 K := by kernel_rfl
def st_Zi_0 (p0:gF) (_p1:PUnit) (y0:Int):Int ⊕ Int := (cond (decide (y0 < (p0.length:Int))) (cond (s_Zs (p0.getD y0.toNat (0:Int))) (Sum.inr y0) (Sum.inl (IntKind.i64.wrap (y0 + 1)))) (Sum.inr (-1:Int)))
abbrev sp_Zi_0 (p0:gF) (_p1:PUnit) (y0:Int):List Prop := [(((decide (y0 < (p0.length:Int)))=true)→((0:Int)≤y0)),(((decide (y0 < (p0.length:Int)))=true)→(y0 < (p0.length:Int)))]
def s_Zi (p0:gF) (p1:PUnit):Int := (lpv (0:Int) (st_Zi_0 p0 p1) (0:Int))
abbrev pre_Zi (p0:gF) (p1:PUnit):List Prop := [(OkL (st_Zi_0 p0 p1) (sp_Zi_0 p0 p1) (0:Int))]
theorem d_Zi (p0:gF) (p1:PUnit) (K:Int→Prop) (hp:∀ p∈pre_Zi p0 p1,p) (h:K (s_Zi p0 p1)):w_Zi p0 p1 K := by
 unfold w_Zi
 unfold s_Zi at h
 obtain ⟨hp0,_⟩ := conj_of hp
 exact (loop_gen (hp0) h (fun y0 k0 hp h => by
 unfold st_Zi_0 at h; obtain ⟨hp0,hp1,_⟩ := conj_of hp
 exact (br' h (fun e1 h => ⟨(hp0 e1),(hp1 e1),(br' h (fun e2 h => h)
  (fun e2 h => h))⟩)
  (fun e1 h => h))))
theorem l_Zi_0 (p0:gF) (p1:PUnit) (hl:lenOk p0):OkL (st_Zi_0 p0 p1) (sp_Zi_0 p0 p1) 0∧lpv (0:Int) (st_Zi_0 p0 p1) 0 = v_scan (fun i x => cond (s_Zs x) (some i) none) (-1:Int) 0 p0 := by
 refine scan_is p0 0 (fun i x => cond (s_Zs x) (some i) none) (-1:Int) hl ?_ ?_
 ·refine ⟨by simp only [sp_Zi_0,fM,decide_eq_true_eq]; simp,by simp [st_Zi_0]⟩
 ·intro j hj
  have hj' : (j:Int) < p0.length := by omega
  refine ⟨by simp only [sp_Zi_0,fM,decide_eq_true_eq,Int.toNat_natCast]; simp <;> omega,?_⟩
  simp only [st_Zi_0,hj',decide_true,Int.toNat_natCast,cond_true,wrap_nat (show (j:Int)≤9223372036854775806 by unfold lenOk at hl; omega)]
  generalize p0.getD j 0 = x
  cases s_Zs x <;> rfl
def v_idx_Zi (p0:gF):Int := v_scan (fun i x => cond (s_Zs x) (some i) none) (-1) 0 p0
abbrev t_Zi (p0:gF) (_p1:PUnit):Int := v_idx_Zi p0
abbrev qre_Zi (p0:gF) (_p1:PUnit):List Prop := [lenOk p0]
theorem pp_Zi (p0:gF) (p1:PUnit) (hq:∀ p∈qre_Zi p0 p1,p):∀ p∈pre_Zi p0 p1,p := by
 simp only [pre_Zi,fM]
 exact ⟨(l_Zi_0 p0 p1 (conj_of hq).1).1,by simp⟩
theorem tt_Zi (p0:gF) (p1:PUnit) (hq:∀ p∈qre_Zi p0 p1,p):s_Zi p0 p1 = t_Zi p0 p1 := by
 exact (l_Zi_0 p0 p1 (conj_of hq).1).2

abbrev con_Zi:Con := ⟨P_Zi,R_Zi,fun x => qre_Zi x.1 x.2,fun x => t_Zi x.1 x.2⟩
theorem ok_Zi:ConOk Tryd.prog 50 con_Zi := okG k_Zi e_Zi hC_Zi fun x hx => tf_of (w_Zi_eq x.1 x.2 _) (d_Zi x.1 x.2 _ (pp_Zi x.1 x.2 hx) (tt_Zi x.1 x.2 hx))
def C_Zq:Cons := [(50,[37],con_Zi)]
theorem hC_Zq:ConsOk Tryd.prog C_Zq := cC ok_Zi <| ConsOk.nil
def w_Zq (p0:gF) (_p1:PUnit) (K:Bool→Prop):Prop := ((lenOk p0) ∧(K (decide ((v_idx_Zi p0) ≥ 0))))
theorem w_Zq_eq (p0:gF) (p1:PUnit) (K:Bool→Prop):tfn F_Zq A_Zq C_Zq P_Zq R_Zq (p0,p1) K = w_Zq p0 p1 K := by kernel_rfl
def s_Zq (p0:gF) (_p1:PUnit):Bool := (decide ((v_idx_Zi p0) ≥ 0))
abbrev pre_Zq (p0:gF) (_p1:PUnit):List Prop := [(lenOk p0)]
theorem d_Zq (p0:gF) (p1:PUnit) (K:Bool→Prop) (hp:∀ p∈pre_Zq p0 p1,p) (h:K (s_Zq p0 p1)):w_Zq p0 p1 K := by
 unfold w_Zq
 unfold s_Zq at h
 obtain ⟨hp0,_⟩ := conj_of hp
 exact ⟨(hp0),h⟩
def v_any_Zq (p0:gF):Bool := p0.any s_Zs
abbrev t_Zq (p0:gF) (_p1:PUnit):Bool := v_any_Zq p0
abbrev qre_Zq (p0:gF) (_p1:PUnit):List Prop := [lenOk p0]
theorem pp_Zq (p0:gF) (p1:PUnit) (hq:∀ p∈qre_Zq p0 p1,p):∀ p∈pre_Zq p0 p1,p := by
 simpa only [pre_Zq] using hq
theorem tt_Zq (p0:gF) (p1:PUnit) (_hq:∀ p∈qre_Zq p0 p1,p):s_Zq p0 p1 = t_Zq p0 p1 := by
 unfold s_Zq t_Zq v_any_Zq
 exact v_scan_idx p0 0 (Int.le_refl 0)

abbrev con_Zq:Con := ⟨P_Zq,R_Zq,fun x => qre_Zq x.1 x.2,fun x => t_Zq x.1 x.2⟩
theorem ok_Zq:ConOk Tryd.prog 36 con_Zq := okG k_Zq e_Zq hC_Zq fun x hx => tf_of (w_Zq_eq x.1 x.2 _) (d_Zq x.1 x.2 _ (pp_Zq x.1 x.2 hx) (tt_Zq x.1 x.2 hx))
def C_Z4:Cons := [(31,[],con_Zt),(25,[],con_Z7),(22,[],con_Z8),(32,ownMark,con_Z12),(36,[37],con_Zq)]
theorem hC_Z4:ConsOk Tryd.prog C_Z4 := cC ok_Zt <| cC ok_Z7 <| cC ok_Z8 <| ConsOk.consO ok_Z12 <| cC ok_Zq <| ConsOk.nil
def w_Z4 (p0:gF) (p1:gF) (K:((List Int)×Int)→Prop):Prop := ((lenOk p0) ∧((lenOk p1) ∧((lenOk ((v_filerr p0) :: ((v_filerr p1) :: ((s_Z7 (decide ((IntKind.i64.wrap ((IntKind.i64.wrap ((p0.length:Int) + (p1.length:Int))) - 1))≤9)) (8:Int)) :: ([]:List Int))))) ∧(((((v_first ((v_filerr p0) :: ((v_filerr p1) :: ((s_Z7 (decide ((IntKind.i64.wrap ((IntKind.i64.wrap ((p0.length:Int) + (p1.length:Int))) - 1))≤9)) (8:Int)) :: ([]:List Int))))) != 0)=true) →(K (([]:List Int),(v_first ((v_filerr p0) :: ((v_filerr p1) :: ((s_Z7 (decide ((IntKind.i64.wrap ((IntKind.i64.wrap ((p0.length:Int) + (p1.length:Int))) - 1))≤9)) (8:Int)) :: ([]:List Int)))))))) ∧((((v_first ((v_filerr p0) :: ((v_filerr p1) :: ((s_Z7 (decide ((IntKind.i64.wrap ((IntKind.i64.wrap ((p0.length:Int) + (p1.length:Int))) - 1))≤9)) (8:Int)) :: ([]:List Int))))) != 0)=false) →(((1≤p0.length) ∧(p0.length≤1000000)) ∧(((1≤p1.length) ∧(p1.length≤1000000)) ∧((zz0≤(IntKind.i64.wrap ((IntKind.i64.wrap ((((v_both p0).length:Nat):Int) + (((v_both p1).length:Nat):Int))) - 1))) ∧((((8:Int) * (IntKind.i64.wrap ((IntKind.i64.wrap ((((v_both p0).length:Nat):Int) + (((v_both p1).length:Nat):Int))) - 1)))≤281474976710656) ∧(((IntKind.i64.wrap ((IntKind.i64.wrap ((((v_both p0).length:Nat):Int) + (((v_both p1).length:Nat):Int))) - 1))≤9223372036854775807) ∧(∃ n0,(loopP (fun (y1:gE) k2 => ((((decide (y1.1 < (((v_both p0).length:Nat):Int)))=true) →((zz0≤y1.1) ∧((y1.1 < (((v_both p0).length:Nat):Int)) ∧(∃ n3,(loopP (fun (y4:gE) k5 => ((((decide (y4.1 < (((v_both p1).length:Nat):Int)))=true) →((zz0≤y4.1) ∧((y4.1 < (((v_both p1).length:Nat):Int)) ∧((zz0≤(IntKind.i64.wrap (y1.1 + y4.1))) ∧(((IntKind.i64.wrap (y1.1 + y4.1)) < (y4.2.length:Int)) ∧((zz0≤(IntKind.i64.wrap (y1.1 + y4.1))) ∧(((IntKind.i64.wrap (y1.1 + y4.1)) < (y4.2.length:Int)) ∧(k5 ((IntKind.i64.wrap (y4.1 + 1)),(List.set y4.2 (Int.toNat (IntKind.i64.wrap (y1.1 + y4.1))) (IntKind.i64.wrap ((y4.2.getD (Int.toNat (IntKind.i64.wrap (y1.1 + y4.1))) zz0) + (IntKind.i64.wrap ((List.getD (v_both p0) y1.1.toNat zz0) * (List.getD (v_both p1) y4.1.toNat zz0))))))))))))))) ∧(((decide (y4.1 < (((v_both p1).length:Nat):Int)))=false) →(k2 ((IntKind.i64.wrap (y1.1 + 1)),y4.2))))) n3 (zz0,y1.2)))))) ∧(((decide (y1.1 < (((v_both p0).length:Nat):Int)))=false) →((zz0≤(IntKind.i64.wrap (Int.tdiv (y1.2.length:Int) (2:Int)))) ∧(((IntKind.i64.wrap (Int.tdiv (y1.2.length:Int) (2:Int))) < (y1.2.length:Int)) ∧(((y1.2.length:Int)≤(y1.2.length:Int)) ∧((lenOk (List.take (Int.toNat ((y1.2.length:Int) - (IntKind.i64.wrap (Int.tdiv (y1.2.length:Int) (2:Int))))) (List.drop (Int.toNat (IntKind.i64.wrap (Int.tdiv (y1.2.length:Int) (2:Int)))) y1.2))) ∧((((v_any_Zq (List.take (Int.toNat ((y1.2.length:Int) - (IntKind.i64.wrap (Int.tdiv (y1.2.length:Int) (2:Int))))) (List.drop (Int.toNat (IntKind.i64.wrap (Int.tdiv (y1.2.length:Int) (2:Int)))) y1.2)))=true) →(K (([]:List Int),(8:Int)))) ∧(((v_any_Zq (List.take (Int.toNat ((y1.2.length:Int) - (IntKind.i64.wrap (Int.tdiv (y1.2.length:Int) (2:Int))))) (List.drop (Int.toNat (IntKind.i64.wrap (Int.tdiv (y1.2.length:Int) (2:Int)))) y1.2)))=false) →(K ((List.take (Int.toNat ((y1.2.length:Int) - (IntKind.i64.wrap (Int.tdiv (y1.2.length:Int) (2:Int))))) (List.drop (Int.toNat (IntKind.i64.wrap (Int.tdiv (y1.2.length:Int) (2:Int)))) y1.2)),zz0))))))))))) n0 (zz0,(List.replicate (Int.toNat (IntKind.i64.wrap ((IntKind.i64.wrap ((((v_both p0).length:Nat):Int) + (((v_both p1).length:Nat):Int))) - 1))) zz0))))))))))))))
theorem w_Z4_eq (p0:gF) (p1:gF) (K:((List Int)×Int)→Prop):tfn F_Z4 A_Z4 C_Z4 P_Z4 R_Z4 (p0,p1) K = w_Z4 p0 p1 K := by kernel_rfl
def st_Z4_0 (p0:gF) (p1:gF) (y1:gE) (y3:gE):(Int×(List Int)) ⊕ ((Int×(List Int)) ⊕ ((List Int)×Int)) := (cond (decide (y3.1 < (((v_both p1).length:Nat):Int))) (Sum.inl ((IntKind.i64.wrap (y3.1 + 1)),(List.set y3.2 (Int.toNat (IntKind.i64.wrap (y1.1 + y3.1))) (IntKind.i64.wrap ((y3.2.getD (Int.toNat (IntKind.i64.wrap (y1.1 + y3.1))) (0:Int)) + (IntKind.i64.wrap ((List.getD (v_both p0) y1.1.toNat (0:Int)) * (List.getD (v_both p1) y3.1.toNat (0:Int))))))))) (Sum.inr (Sum.inl ((IntKind.i64.wrap (y1.1 + 1)),y3.2))))
abbrev sp_Z4_0 (_p0:gF) (p1:gF) (y1:gE) (y3:gE):List Prop := [(((decide (y3.1 < (((v_both p1).length:Nat):Int)))=true)→((0:Int)≤y3.1)),(((decide (y3.1 < (((v_both p1).length:Nat):Int)))=true)→(y3.1 < (((v_both p1).length:Nat):Int))),(((decide (y3.1 < (((v_both p1).length:Nat):Int)))=true)→((0:Int)≤(IntKind.i64.wrap (y1.1 + y3.1)))),(((decide (y3.1 < (((v_both p1).length:Nat):Int)))=true)→((IntKind.i64.wrap (y1.1 + y3.1)) < (y3.2.length:Int)))]
def st_Zs (p0:gF) (p1:gF) (y1:gE):(Int×(List Int)) ⊕ ((List Int)×Int) := (cond (decide (y1.1 < (((v_both p0).length:Nat):Int))) (lpv (Sum.inr ([],(0:Int))) (st_Z4_0 p0 p1 y1) ((0:Int),y1.2)) (cond (v_any_Zq (List.take (Int.toNat ((y1.2.length:Int) - (IntKind.i64.wrap (Int.tdiv (y1.2.length:Int) (2:Int))))) (List.drop (Int.toNat (IntKind.i64.wrap (Int.tdiv (y1.2.length:Int) (2:Int)))) y1.2))) (Sum.inr (([]:List Int),(8:Int))) (Sum.inr ((List.take (Int.toNat ((y1.2.length:Int) - (IntKind.i64.wrap (Int.tdiv (y1.2.length:Int) (2:Int))))) (List.drop (Int.toNat (IntKind.i64.wrap (Int.tdiv (y1.2.length:Int) (2:Int)))) y1.2)),(0:Int)))))
abbrev sp_Zs (p0:gF) (p1:gF) (y1:gE):List Prop := [(((decide (y1.1 < (((v_both p0).length:Nat):Int)))=true)→((0:Int)≤y1.1)),(((decide (y1.1 < (((v_both p0).length:Nat):Int)))=true)→(y1.1 < (((v_both p0).length:Nat):Int))),(((decide (y1.1 < (((v_both p0).length:Nat):Int)))=true)→(OkL (st_Z4_0 p0 p1 y1) (sp_Z4_0 p0 p1 y1) ((0:Int),y1.2))),(((decide (y1.1 < (((v_both p0).length:Nat):Int)))=false)→((0:Int)≤(IntKind.i64.wrap (Int.tdiv (y1.2.length:Int) (2:Int))))),(((decide (y1.1 < (((v_both p0).length:Nat):Int)))=false)→((IntKind.i64.wrap (Int.tdiv (y1.2.length:Int) (2:Int))) < (y1.2.length:Int))),(((decide (y1.1 < (((v_both p0).length:Nat):Int)))=false)→((y1.2.length:Int)≤(y1.2.length:Int))),(((decide (y1.1 < (((v_both p0).length:Nat):Int)))=false)→(lenOk (List.take (Int.toNat ((y1.2.length:Int) - (IntKind.i64.wrap (Int.tdiv (y1.2.length:Int) (2:Int))))) (List.drop (Int.toNat (IntKind.i64.wrap (Int.tdiv (y1.2.length:Int) (2:Int)))) y1.2))))]
def s_Z4 (p0:gF) (p1:gF):((List Int)×Int) := (cond ((v_first ((v_filerr p0) :: ((v_filerr p1) :: ((s_Z7 (decide ((IntKind.i64.wrap ((IntKind.i64.wrap ((p0.length:Int) + (p1.length:Int))) - 1))≤9)) (8:Int)) :: ([]:List Int))))) != 0) (([]:List Int),(v_first ((v_filerr p0) :: ((v_filerr p1) :: ((s_Z7 (decide ((IntKind.i64.wrap ((IntKind.i64.wrap ((p0.length:Int) + (p1.length:Int))) - 1))≤9)) (8:Int)) :: ([]:List Int)))))) (lpv ([],(0:Int)) (st_Zs p0 p1) ((0:Int),(List.replicate (Int.toNat (IntKind.i64.wrap ((IntKind.i64.wrap ((((v_both p0).length:Nat):Int) + (((v_both p1).length:Nat):Int))) - 1))) (0:Int)))))
abbrev pre_Z4 (p0:gF) (p1:gF):List Prop := [(lenOk p0),(lenOk p1),((((v_first ((v_filerr p0) :: ((v_filerr p1) :: ((s_Z7 (decide ((IntKind.i64.wrap ((IntKind.i64.wrap ((p0.length:Int) + (p1.length:Int))) - 1))≤9)) (8:Int)) :: ([]:List Int))))) != 0)=false)→((1≤p0.length)∧(p0.length≤1000000))),((((v_first ((v_filerr p0) :: ((v_filerr p1) :: ((s_Z7 (decide ((IntKind.i64.wrap ((IntKind.i64.wrap ((p0.length:Int) + (p1.length:Int))) - 1))≤9)) (8:Int)) :: ([]:List Int))))) != 0)=false)→((1≤p1.length)∧(p1.length≤1000000))),((((v_first ((v_filerr p0) :: ((v_filerr p1) :: ((s_Z7 (decide ((IntKind.i64.wrap ((IntKind.i64.wrap ((p0.length:Int) + (p1.length:Int))) - 1))≤9)) (8:Int)) :: ([]:List Int))))) != 0)=false)→((0:Int)≤(IntKind.i64.wrap ((IntKind.i64.wrap ((((v_both p0).length:Nat):Int) + (((v_both p1).length:Nat):Int))) - 1)))),((((v_first ((v_filerr p0) :: ((v_filerr p1) :: ((s_Z7 (decide ((IntKind.i64.wrap ((IntKind.i64.wrap ((p0.length:Int) + (p1.length:Int))) - 1))≤9)) (8:Int)) :: ([]:List Int))))) != 0)=false)→(((8:Int) * (IntKind.i64.wrap ((IntKind.i64.wrap ((((v_both p0).length:Nat):Int) + (((v_both p1).length:Nat):Int))) - 1)))≤281474976710656)),((((v_first ((v_filerr p0) :: ((v_filerr p1) :: ((s_Z7 (decide ((IntKind.i64.wrap ((IntKind.i64.wrap ((p0.length:Int) + (p1.length:Int))) - 1))≤9)) (8:Int)) :: ([]:List Int))))) != 0)=false)→((IntKind.i64.wrap ((IntKind.i64.wrap ((((v_both p0).length:Nat):Int) + (((v_both p1).length:Nat):Int))) - 1))≤9223372036854775807)),((((v_first ((v_filerr p0) :: ((v_filerr p1) :: ((s_Z7 (decide ((IntKind.i64.wrap ((IntKind.i64.wrap ((p0.length:Int) + (p1.length:Int))) - 1))≤9)) (8:Int)) :: ([]:List Int))))) != 0)=false)→(OkL (st_Zs p0 p1) (sp_Zs p0 p1) ((0:Int),(List.replicate (Int.toNat (IntKind.i64.wrap ((IntKind.i64.wrap ((((v_both p0).length:Nat):Int) + (((v_both p1).length:Nat):Int))) - 1))) (0:Int)))))]
theorem d_Z4 (p0:gF) (p1:gF) (K:((List Int)×Int)→Prop) (hp:∀ p∈pre_Z4 p0 p1,p) (h:K (s_Z4 p0 p1)):w_Z4 p0 p1 K := by
 unfold w_Z4
 unfold s_Z4 at h
 obtain ⟨hp0,hp1,hp2,hp3,hp4,hp5,hp6,hp7,_⟩ := conj_of hp
 exact ⟨(hp0),(hp1),(lenOk_of 3 rfl (by decide)),(br' h (fun e0 h => h)
  (fun e0 h => ⟨(hp2 e0),(hp3 e0),(hp4 e0),(hp5 e0),(hp6 e0),(loop_gen (hp7 e0) h (fun y1 k1 hp h => by
 unfold st_Zs at h; obtain ⟨hp0,hp1,hp2,hp3,hp4,hp5,hp6,_⟩ := conj_of hp
 exact (br' h (fun e2 h => ⟨(hp0 e2),(hp1 e2),(loop_gen (hp2 e2) h (fun y3 k3 hp h => by
 unfold st_Z4_0 at h; obtain ⟨hp0,hp1,hp2,hp3,_⟩ := conj_of hp
 exact (br' h (fun e4 h => ⟨(hp0 e4),(hp1 e4),(hp2 e4),(hp3 e4),(hp2 e4),(hp3 e4),h⟩)
  (fun e4 h => h))))⟩)
  (fun e2 h => ⟨(hp3 e2),(hp4 e2),(hp5 e2),(hp6 e2),(br' h (fun e5 h => h)
  (fun e5 h => h))⟩))))⟩))⟩
/-- The numbers of two filters composed. -/
def v_conv (f g:gF):List Int := (List.range' 0 (f.length + g.length - 1)).map fun (k:Nat) => v_sums (fun i => v_at f ((i:Int) - ((f.length:Int) - 1)) * v_at g ((k:Int) - ((i:Int) - ((f.length:Int) - 1)))) 0 (2 * f.length - 1)
/-- The sums of products behind so many rounds. -/
def v_pr (f g:gF) (i t:Nat):Int := v_sums (fun i => v_at f ((i:Int) - ((f.length:Int) - 1)) * v_at g ((t:Int) - (i:Int) - ((g.length:Int) - 1))) 0 i
def v_prod2 (f g:gF) (i:Nat):List Int := (List.range' 0 (2 * (f.length + g.length - 1) - 1)).map fun t => v_pr f g i t
theorem v_prod2_len (f g:gF) (i:Nat):(v_prod2 f g i).length = 2 * (f.length + g.length - 1) - 1 := by simp [v_prod2]
theorem v_prod2_get {f g:List Int} {i t:Nat} (h:t < 2 * (f.length + g.length - 1) - 1):(v_prod2 f g i).getD t 0 = v_pr f g i t := by
 unfold v_prod2; rw [gd_map_range h,Nat.zero_add]
theorem v_at_mul {f g:List Int} (h0:v_fw f) (h1:v_fw g) (a b:Int) : -10000000000≤v_at f a * v_at g b∧v_at f a * v_at g b≤10000000000 := by
 have := mul_abs (h0.at a).1 (h0.at a).2 (h1.at b).1 (h1.at b).2
 omega
theorem v_pr_in {f g:List Int} (h0:v_fw f) (h1:v_fw g) (i t:Nat) : -(i * 10000000000)≤v_pr f g i t∧v_pr f g i t≤i * 10000000000 := v_sums_in i 0 (fun _ _ _ => v_at_mul h0 h1 _ _)
theorem l_Z4_0 (p0 p1:gF) (h0:v_fw p0) (h1:v_fw p1) (i:Nat) (hi:i < 2 * p0.length - 1):OkL (st_Z4_0 p0 p1 ((i:Int),v_prod2 p0 p1 i)) (sp_Z4_0 p0 p1 ((i:Int),v_prod2 p0 p1 i)) (0,v_prod2 p0 p1 i)∧lpv (Sum.inr ([],0)) (st_Z4_0 p0 p1 ((i:Int),v_prod2 p0 p1 i)) (0,v_prod2 p0 p1 i)=Sum.inl (((i + 1:Nat):Int),v_prod2 p0 p1 (i + 1)) := by
 have a1 := h0.one
 have a9 := h0.nine
 have b1 := h1.one
 have b9 := h1.nine
 have hb := v_both_len b1
 have hL := v_prod2_len p0 p1 i
 refine for_is (fun i t => (i,t)) 0 (2 * p1.length - 1) (fun j l => l.length = 2 * (p0.length + p1.length - 1) - 1∧∀ t,t < 2 * (p0.length + p1.length - 1) - 1→l.getD t 0 = v_pr p0 p1 i t + if i≤t∧t < i + j then v_at p0 ((i:Int) - ((p0.length:Int) - 1)) * v_at p1 ((t:Int) - (i:Int) - ((p1.length:Int) - 1)) else 0) (fun _ _ => Sum.inl (((i + 1:Nat):Int),v_prod2 p0 p1 (i + 1))) (by omega) (by omega) ?_ ?_ _ ⟨hL,fun t ht => by rw [v_prod2_get ht,if_neg (by omega)]; omega⟩
 ·rintro l ⟨g1,g2⟩
  have hd:decide (((2 * p1.length - 1:Nat):Int) < ((v_both p1).length:Nat))=false := decide_eq_false (by omega)
  refine ⟨by simp only [sp_Z4_0,fM,hd]; simp,?_⟩
  simp only [st_Z4_0,hd,cond_false,wrap_nat (show (i:Int)≤9223372036854775806 by omega)]
  congr 3
  refine gd_ext 0 (by rw [g1,v_prod2_len]) fun t ht => ?_
  rw [g1] at ht
  rw [g2 t ht,v_prod2_get ht]
  unfold v_pr
  rw [v_sums_last,Nat.zero_add]
  split
  ·rfl
  ·rw [v_at_out (f := p1) (by omega),Int.mul_zero]
 ·rintro j l _ hj ⟨g1,g2⟩
  have hd:decide ((j:Int) < ((v_both p1).length:Nat))=true := decide_eq_true (by omega)
  have hw:IntKind.i64.wrap ((i:Int) + (j:Int))=((i + j:Nat):Int) := by rw [wrap_id (by omega) (by omega)]; omega
  refine ⟨?_,.inl ⟨_,by simp only [st_Z4_0,hd,cond_true,hw,Int.toNat_natCast,wrap_nat (show (j:Int)≤9223372036854775806 by omega)]; rfl,⟨by rw [List.length_set]; exact g1,fun t ht => ?_⟩,rfl⟩⟩
  ·simp only [sp_Z4_0,fM,decide_eq_true_eq,hw]
   exact ⟨fun _ => by omega,fun _ => by omega,fun _ => by omega,fun _ => by omega,by simp⟩
  ·have hm := v_at_mul h0 h1 ((i:Int) - ((p0.length:Int) - 1)) ((j:Int) - ((p1.length:Int) - 1))
   have hs := v_pr_in h0 h1 i (i + j)
   rw [gd_set (by omega)]
   by_cases e:t = i + j
   ·subst e
    rw [if_pos rfl,v_both_at hi,v_both_at hj,g2 (i + j) (by omega),if_neg (by omega),wrap_id (n := v_at p0 ((i:Int) - ((p0.length:Int) - 1)) * v_at p1 ((j:Int) - ((p1.length:Int) - 1))) (by omega) (by omega),wrap_id (by omega) (by omega)]
    rw [if_pos (by omega),show ((i + j:Nat):Int) - (i:Int) - ((p1.length:Int) - 1)=(j:Int) - ((p1.length:Int) - 1) by omega]; omega
   ·rw [if_neg e,g2 t ht]
    congr 1
    by_cases c:i≤t∧t < i + j
    ·rw [if_pos c,if_pos (by omega)]
    ·rw [if_neg c,if_neg (by omega)]
theorem v_conv_len (f g:gF):(v_conv f g).length = f.length + g.length - 1 := by simp [v_conv]
theorem v_conv_get {f g:List Int} {k:Nat} (h:k < f.length + g.length - 1):(v_conv f g).getD k 0 = v_sums (fun i => v_at f ((i:Int) - ((f.length:Int) - 1)) * v_at g ((k:Int) - ((i:Int) - ((f.length:Int) - 1)))) 0 (2 * f.length - 1) := by
 unfold v_conv; rw [gd_map_range h,Nat.zero_add]
theorem v_prod2_conv {f g:List Int} (h0:1≤f.length) (h1:1≤g.length):List.take (f.length + g.length - 1) (List.drop (f.length + g.length - 2) (v_prod2 f g (2 * f.length - 1)))=v_conv f g := by
 refine gd_ext 0 (by rw [v_conv_len,List.length_take,List.length_drop,v_prod2_len]; omega) fun k hk => ?_
 rw [List.length_take,List.length_drop,v_prod2_len] at hk
 rw [gd_take (by omega),gd_drop,v_prod2_get (by omega),v_conv_get (by omega)]
 refine v_sums_congr _ _ fun i _ _ => ?_
 congr 2; omega
theorem l_Z4 (p0 p1:gF) (h0:v_fw p0) (h1:v_fw p1):OkL (st_Zs p0 p1) (sp_Zs p0 p1) (0,v_prod2 p0 p1 0)∧lpv ([],0) (st_Zs p0 p1) (0,v_prod2 p0 p1 0)=cond (v_any_Zq (v_conv p0 p1)) ([],8) (v_conv p0 p1,0) := by
 have a1 := h0.one
 have a9 := h0.nine
 have b1 := h1.one
 have b9 := h1.nine
 have hb := v_both_len a1
 refine for_is (fun i t => (i,t)) 0 (2 * p0.length - 1) (fun j l => l = v_prod2 p0 p1 j) (fun _ _ => cond (v_any_Zq (v_conv p0 p1)) ([],8) (v_conv p0 p1,0)) (by omega) (by omega) ?_ ?_ _ rfl
 ·rintro l rfl
  have hd:decide (((2 * p0.length - 1:Nat):Int) < ((v_both p0).length:Nat))=false := decide_eq_false (by omega)
  have hq:IntKind.i64.wrap (Int.tdiv (((v_prod2 p0 p1 (2 * p0.length - 1)).length:Nat):Int) 2)=((p0.length + p1.length - 2:Nat):Int) := by
   rw [v_prod2_len,Int.tdiv_eq_ediv_of_nonneg (by omega),wrap_id (by omega) (by omega)]; omega
  have hc:List.take (Int.toNat ((((v_prod2 p0 p1 (2 * p0.length - 1)).length:Nat):Int) - ((p0.length + p1.length - 2:Nat):Int))) (List.drop (Int.toNat ((p0.length + p1.length - 2:Nat):Int)) (v_prod2 p0 p1 (2 * p0.length - 1)))=v_conv p0 p1 := by
   rw [← v_prod2_conv a1 b1,v_prod2_len,Int.toNat_natCast]
   congr 1; omega
  have hl := v_conv_len p0 p1
  refine ⟨?_,?_⟩
  ·simp only [sp_Zs,fM,decide_eq_true_eq,hq,hc]
   refine ⟨fun h => by omega,fun h => by omega,fun h => absurd h (by omega),fun _ => by omega,fun _ => by rw [v_prod2_len]; omega,fun _ => by omega,fun _ => lenOk_m (by omega),by simp⟩
  ·simp only [st_Zs,hd,cond_false,hq,hc]
   cases v_any_Zq (v_conv p0 p1) <;> rfl
 ·rintro j l _ hj rfl
  have hd:decide ((j:Int) < ((v_both p0).length:Nat))=true := decide_eq_true (by omega)
  obtain ⟨l1,l2⟩ := l_Z4_0 p0 p1 h0 h1 j hj
  refine ⟨?_,.inl ⟨_,by simp only [st_Zs,hd,cond_true]; exact l2,rfl,rfl⟩⟩
  simp only [sp_Zs,fM]
  have no:∀ {p:Prop},decide ((j:Int) < ((v_both p0).length:Nat))=false→p := fun h => by rw [hd] at h; cases h
  exact ⟨fun _ => by omega,fun _ => by omega,fun _ => l1,no,no,no,no,by simp⟩
/-- The error of two filters that are composed. -/
def v_cerr (p0 p1:gF):Int := v_first [v_filerr p0,v_filerr p1,s_Z7 (decide ((p0.length:Int) + p1.length - 1≤9)) 8]
theorem tx_cerr {p0 p1:List Int} (h:v_cerr p0 p1 = 0):v_fok p0∧v_fok p1∧p0.length + p1.length - 1≤9 := by
 obtain ⟨h1,h⟩ := v_first0 h
 obtain ⟨h2,h⟩ := v_first0 h
 obtain ⟨h3,_⟩ := v_first0 h
 have := of_decide_eq_true (tx_unless0' (by decide) h3)
 exact ⟨tx_fok h1,tx_fok h2,by omega⟩
abbrev t_Z4 (p0 p1:gF):List Int×Int := cond (v_cerr p0 p1 != 0) ([],v_cerr p0 p1) (cond (v_any_Zq (v_conv p0 p1)) ([],8) (v_conv p0 p1,0))
abbrev qre_Z4 (p0 p1:gF):List Prop := [p0.length≤1000000,p1.length≤1000000]
theorem l_gravity_Composed1 {p0 p1:List Int} (h0:p0.length≤1000000) (h1:p1.length≤1000000):v_first (v_filerr p0 :: v_filerr p1 :: s_Z7 (decide (IntKind.i64.wrap (IntKind.i64.wrap (((p0.length:Nat):Int) + ((p1.length:Nat):Int)) - 1)≤9)) 8 :: [])=v_cerr p0 p1 := by
 rw [wrap_id (n := ((p0.length:Nat):Int) + ((p1.length:Nat):Int)) (by omega) (by omega),wrap_id (by omega) (by omega)]; rfl
theorem l_gravity_Composed2 {p0 p1:List Int} (h0:v_fw p0) (h1:v_fw p1):IntKind.i64.wrap (IntKind.i64.wrap ((((v_both p0).length:Nat):Int) + (((v_both p1).length:Nat):Int)) - 1)=((2 * (p0.length + p1.length - 1) - 1:Nat):Int) := by
 have a1 := h0.one
 have a9 := h0.nine
 have b1 := h1.one
 have b9 := h1.nine
 rw [v_both_len a1,v_both_len b1,wrap_id (n := ((2 * p0.length - 1:Nat):Int) + ((2 * p1.length - 1:Nat):Int)) (by omega) (by omega),wrap_id (by omega) (by omega)]; omega
theorem l_gravity_Composed3 {p0 p1:List Int}:List.replicate (2 * (p0.length + p1.length - 1) - 1) (0:Int)=v_prod2 p0 p1 0 := by
 refine gd_ext 0 (by rw [v_prod2_len,List.length_replicate]) fun t ht => ?_
 rw [List.length_replicate] at ht
 rw [gd_rep ht,v_prod2_get ht]; rfl
theorem pp_Z4 (p0 p1:gF) (hq:∀ p∈qre_Z4 p0 p1,p):∀ p∈pre_Z4 p0 p1,p := by
 obtain ⟨q0,q1,_⟩ := conj_of hq
 simp only [pre_Z4,fM,l_gravity_Composed1 q0 q1]
 have key:(v_cerr p0 p1 != 0)=false→v_fok p0∧v_fok p1∧p0.length + p1.length - 1≤9 := fun h => tx_cerr (bne0' h)
 refine ⟨lenOk_m (by omega),lenOk_m (by omega),fun h => ⟨(key h).1.one,q0⟩,fun h => ⟨(key h).2.1.one,q1⟩,fun h => ?_,fun h => ?_,fun h => ?_,fun h => ?_,by simp⟩
 all_goals
  obtain ⟨k1,k2,k3⟩ := key h
  rw [l_gravity_Composed2 k1.tov_fw k2.tov_fw]
 ·omega
 ·omega
 ·omega
 ·rw [Int.toNat_natCast,l_gravity_Composed3]
  exact (l_Z4 p0 p1 k1.tov_fw k2.tov_fw).1
theorem tt_Z4 (p0 p1:gF) (hq:∀ p∈qre_Z4 p0 p1,p):s_Z4 p0 p1 = t_Z4 p0 p1 := by
 obtain ⟨q0,q1,_⟩ := conj_of hq
 unfold s_Z4 t_Z4
 rw [l_gravity_Composed1 q0 q1]
 cases h:(v_cerr p0 p1 != 0)
 ·obtain ⟨k1,k2,k3⟩ := tx_cerr (bne0' h)
  rw [l_gravity_Composed2 k1.tov_fw k2.tov_fw,Int.toNat_natCast,l_gravity_Composed3]
  exact (l_Z4 p0 p1 k1.tov_fw k2.tov_fw).2
 ·rfl

abbrev con_Z4:Con := ⟨P_Z4,R_Z4,fun x => qre_Z4 x.1 x.2,fun x => t_Z4 x.1 x.2⟩
theorem ok_Z4:ConOk Tryd.prog 15 con_Z4 := okG k_Z4 e_Z4 hC_Z4 fun x hx => tf_of (w_Z4_eq x.1 x.2 _) (d_Z4 x.1 x.2 _ (pp_Z4 x.1 x.2 hx) (tt_Z4 x.1 x.2 hx))
end Go.Proofs.YtfapfcjioianbaaDoor
