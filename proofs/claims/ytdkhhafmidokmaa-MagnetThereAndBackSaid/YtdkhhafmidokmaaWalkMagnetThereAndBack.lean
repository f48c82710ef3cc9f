/- What the functions that MagnetThereAndBack reaches compute: contracts, each function once. No condition. -/
import Derived.Test.YtdkhhafmidokmaaLayB
import Derived.Test.YtdkhhafmidokmaaAwMMagnetThereAndBack
import Derived.KernelRfl
namespace Go.Proofs.Ytdkhhafmidokmaa
open Go Go.Mx
set_option maxRecDepth 100000
set_option maxHeartbeats 4000000
abbrev gF:=List Int
abbrev gG:=Int×Int
abbrev gA:=List (List Int×List Int)
abbrev gB:=List (Int×Int×Int)
abbrev gC:=List (Int×Int)
abbrev gE:=Int×List Int
abbrev gD:=(Int×List Int)×(Int×List Int)
theorem fM.{u} {α:Type u} {p:α→Prop} {a:α} {l:List α}:(∀ x∈a::l,p x) ↔ p a ∧ ∀ x∈l,p x := List.forall_mem_cons
theorem cC {P:Program} {f:FuncId} {ids:List FuncId} {c:Con} {C:Cons} (h:ConOk P f c) (hC:ConsOk P C) (hm:isMark ids=false := by rfl):ConsOk P ((f,ids,c)::C) := ConsOk.cons h hC hm
theorem okG {P:Program} {f:FuncId} {F:TFn} {A:Nat→Ty} {C:Cons} {ps rs:List PSh} {pre:(tyPs ps).den→List Prop} {s:(tyPs ps).den→(tyPs rs).den} (k:callable P f=true) (e:cFn P f=some F.erase) (hC:ConsOk P C) (h:∀ x,(∀ p∈pre x,p)→Tf F A C ps rs x (fun z => z=s x)):ConOk P f ⟨ps,rs,pre,s⟩ := ⟨k,fun x hx => ret_tf e hC (h x hx)⟩
abbrev wi (n:Int):Int := IntKind.i64.wrap n
abbrev zz0:Int := 0
abbrev zz1:Int := 1
abbrev zz2:Int := 2
theorem od {p:Prop} [Decidable p] (h:decide p = true):p := of_decide_eq_true h
theorem nof {p:Prop} (h:false = true):p := Bool.noConfusion h
theorem rf {p:Prop} {α:Sort _} {a:α} (_:p):a = a := rfl

def C_Z3:Cons := []
theorem hC_Z3:ConsOk Try.prog C_Z3 := ConsOk.nil
def w_Z3 (p0:Int) (p1:Int) (p2:Int) (K:Bool→Prop):Prop := ((((decide (p1≤p0))=true) →((decide (p1≤p0))=(decide (p1≤p0)))) ∧((((decide (p1≤p0))=true) →((decide (p1≤p0))=(decide (p1≤p0)))) ∧(((decide (p1≤p0))=(decide (p1≤p0))) ∧(K (cond (decide (p1≤p0)) (decide (p0≤p2)) false)))))
theorem w_Z3_eq (p0:Int) (p1:Int) (p2:Int) (K:Bool→Prop):tfn F_Z3 A_Z3 C_Z3 P_Z3 R_Z3 (p0,p1,p2) K = w_Z3 p0 p1 p2 K := by kernel_rfl
def s_Z3 (p0:Int) (p1:Int) (p2:Int):Bool := (cond (decide (p1≤p0)) (decide (p0≤p2)) false)
abbrev pre_Z3 (_p0:Int) (_p1:Int) (_p2:Int):List Prop := []
theorem d_Z3 (p0:Int) (p1:Int) (p2:Int) (K:Bool→Prop) (_hp:∀ p∈pre_Z3 p0 p1 p2,p) (h:K (s_Z3 p0 p1 p2)):w_Z3 p0 p1 p2 K := by
 unfold w_Z3
 unfold s_Z3 at h
 exact ⟨rf,rf,rfl,h⟩
abbrev con_Z3:Con := ⟨P_Z3,R_Z3,fun x => pre_Z3 x.1 x.2.1 x.2.2,fun x => s_Z3 x.1 x.2.1 x.2.2⟩
theorem ok_Z3:ConOk Try.prog 17 con_Z3 := okG k_Z3 e_Z3 hC_Z3 fun x hx => tf_of (w_Z3_eq x.1 x.2.1 x.2.2 _) (d_Z3 x.1 x.2.1 x.2.2 _ hx rfl)
theorem tx_within {n lo hi:Int}:s_Z3 n lo hi = true ↔ lo≤n∧n≤hi := by unfold s_Z3; simp
def C_Z4:Cons := []
theorem hC_Z4:ConsOk Try.prog C_Z4 := ConsOk.nil
def w_Z4 (p0:Int) (p1:Int) (p2:Int) (K:Bool→Prop):Prop := ((((decide (p1≤p0))=true) →((decide (p1≤p0))=(decide (p1≤p0)))) ∧((((decide (p1≤p0))=true) →((decide (p1≤p0))=(decide (p1≤p0)))) ∧(((decide (p1≤p0))=(decide (p1≤p0))) ∧(K (cond (decide (p1≤p0)) (decide (p0≤p2)) false)))))
theorem w_Z4_eq (p0:Int) (p1:Int) (p2:Int) (K:Bool→Prop):tfn F_Z4 A_Z4 C_Z4 P_Z4 R_Z4 (p0,p1,p2) K = w_Z4 p0 p1 p2 K := by kernel_rfl
def s_Z4 (p0:Int) (p1:Int) (p2:Int):Bool := (cond (decide (p1≤p0)) (decide (p0≤p2)) false)
abbrev pre_Z4 (_p0:Int) (_p1:Int) (_p2:Int):List Prop := []
theorem d_Z4 (p0:Int) (p1:Int) (p2:Int) (K:Bool→Prop) (_hp:∀ p∈pre_Z4 p0 p1 p2,p) (h:K (s_Z4 p0 p1 p2)):w_Z4 p0 p1 p2 K := by
 unfold w_Z4
 unfold s_Z4 at h
 exact ⟨rf,rf,rfl,h⟩
abbrev con_Z4:Con := ⟨P_Z4,R_Z4,fun x => pre_Z4 x.1 x.2.1 x.2.2,fun x => s_Z4 x.1 x.2.1 x.2.2⟩
theorem ok_Z4:ConOk Try.prog 86 con_Z4 := okG k_Z4 e_Z4 hC_Z4 fun x hx => tf_of (w_Z4_eq x.1 x.2.1 x.2.2 _) (d_Z4 x.1 x.2.1 x.2.2 _ hx rfl)
theorem tx_withinG {n lo hi:Int}:s_Z4 n lo hi = s_Z3 n lo hi := rfl
def C_Zf:Cons := [(86,[],con_Z4)]
theorem hC_Zf:ConsOk Try.prog C_Zf := cC ok_Z4 <| ConsOk.nil
def w_Zf (p0:Int) (p1:Int) (K:Bool→Prop):Prop := (K (s_Z4 p0 (IntKind.i64.wrap (zz0 - p1)) p1))
theorem w_Zf_eq (p0:Int) (p1:Int) (K:Bool→Prop):tfn F_Zf A_Zf C_Zf P_Zf R_Zf (p0,p1) K = w_Zf p0 p1 K := by kernel_rfl
def s_Zf (p0:Int) (p1:Int):Bool := (s_Z4 p0 (IntKind.i64.wrap ((0:Int) - p1)) p1)
abbrev pre_Zf (_p0:Int) (_p1:Int):List Prop := []
theorem d_Zf (p0:Int) (p1:Int) (K:Bool→Prop) (_hp:∀ p∈pre_Zf p0 p1,p) (h:K (s_Zf p0 p1)):w_Zf p0 p1 K := by
 unfold w_Zf
 unfold s_Zf at h
 exact h
abbrev con_Zf:Con := ⟨P_Zf,R_Zf,fun x => pre_Zf x.1 x.2,fun x => s_Zf x.1 x.2⟩
theorem ok_Zf:ConOk Try.prog 83 con_Zf := okG k_Zf e_Zf hC_Zf fun x hx => tf_of (w_Zf_eq x.1 x.2 _) (d_Zf x.1 x.2 _ hx rfl)
def C_Ze:Cons := [(83,[],con_Zf)]
theorem hC_Ze:ConsOk Try.prog C_Ze := cC ok_Zf <| ConsOk.nil
def w_Ze (p0:Int) (K:Bool→Prop):Prop := (K (s_Z4 p0 (-100000:Int) (100000:Int)))
theorem w_Ze_eq (p0:Int) (K:Bool→Prop):tfn F_Ze A_Ze C_Ze P_Ze R_Ze p0 K = w_Ze p0 K := by kernel_rfl
def s_Ze (p0:Int):Bool := (s_Z4 p0 (-100000:Int) (100000:Int))
abbrev pre_Ze (_p0:Int):List Prop := []
theorem d_Ze (p0:Int) (K:Bool→Prop) (_hp:∀ p∈pre_Ze p0,p) (h:K (s_Ze p0)):w_Ze p0 K := by
 unfold w_Ze
 unfold s_Ze at h
 exact h
abbrev con_Ze:Con := ⟨P_Ze,R_Ze,fun x => pre_Ze x,fun x => s_Ze x⟩
theorem ok_Ze:ConOk Try.prog 85 con_Ze := okG k_Ze e_Ze hC_Ze fun x hx => tf_of (w_Ze_eq x _) (d_Ze x _ hx rfl)
def C_Zg:Cons := [(85,[],con_Ze)]
theorem hC_Zg:ConsOk Try.prog C_Zg := cC ok_Ze <| ConsOk.nil
def w_Zg (p0:Int) (K:Bool→Prop):Prop := (K (!(s_Z4 p0 (-100000:Int) (100000:Int))))
theorem w_Zg_eq (p0:Int) (K:Bool→Prop):tfn F_Zg A_Zg C_Zg P_Zg R_Zg p0 K = w_Zg p0 K := by kernel_rfl
def s_Zg (p0:Int):Bool := (!(s_Z4 p0 (-100000:Int) (100000:Int)))
abbrev pre_Zg (_p0:Int):List Prop := []
theorem d_Zg (p0:Int) (K:Bool→Prop) (_hp:∀ p∈pre_Zg p0,p) (h:K (s_Zg p0)):w_Zg p0 K := by
 unfold w_Zg
 unfold s_Zg at h
 exact h
abbrev con_Zg:Con := ⟨P_Zg,R_Zg,fun x => pre_Zg x,fun x => s_Zg x⟩
theorem ok_Zg:ConOk Try.prog 125 con_Zg := okG k_Zg e_Zg hC_Zg fun x hx => tf_of (w_Zg_eq x _) (d_Zg x _ hx rfl)
def C_Zb:Cons := [(125,[],con_Zg)]
theorem hC_Zb:ConsOk Try.prog C_Zb := cC ok_Zg <| ConsOk.nil
def w_Zb (p0:gF) (_p1:PUnit) (K:Int→Prop):Prop := (∃ n0,(loopP (fun (y1:Int) k2 => ((((decide (y1 < (p0.length:Int)))=true) →((zz0≤y1) ∧((y1 < (p0.length:Int)) ∧((((!(s_Z4 (p0.getD y1.toNat zz0) (-100000:Int) (100000:Int)))=true) →(K y1)) ∧(((!(s_Z4 (p0.getD y1.toNat zz0) (-100000:Int) (100000:Int)))=false) →(k2 (IntKind.i64.wrap (y1 + 1)))))))) ∧(((decide (y1 < (p0.length:Int)))=false) →(K (-1:Int))))) n0 zz0))
theorem w_Zb_eq (p0:gF) (p1:PUnit) (K:Int→Prop):tfn F_Zb A_Zb C_Zb P_Zb R_Zb (p0,p1) K = w_Zb p0 p1 K := by kernel_rfl
def st_Zb_0 (p0:gF) (_p1:PUnit) (y0:Int):Int ⊕ Int := (cond (decide (y0 < (p0.length:Int))) (cond (!(s_Z4 (p0.getD y0.toNat (0:Int)) (-100000:Int) (100000:Int))) (Sum.inr y0) (Sum.inl (IntKind.i64.wrap (y0 + 1)))) (Sum.inr (-1:Int)))
abbrev sp_Zb_0 (p0:gF) (_p1:PUnit) (y0:Int):List Prop := [(((decide (y0 < (p0.length:Int)))=true)→((0:Int)≤y0)),(((decide (y0 < (p0.length:Int)))=true)→(y0 < (p0.length:Int)))]
def s_Zb (p0:gF) (p1:PUnit):Int := (lpv (0:Int) (st_Zb_0 p0 p1) (0:Int))
abbrev pre_Zb (p0:gF) (p1:PUnit):List Prop := [(OkL (st_Zb_0 p0 p1) (sp_Zb_0 p0 p1) (0:Int))]
theorem d_Zb (p0:gF) (p1:PUnit) (K:Int→Prop) (hp:∀ p∈pre_Zb p0 p1,p) (h:K (s_Zb p0 p1)):w_Zb p0 p1 K := by
 unfold w_Zb
 unfold s_Zb at h
 obtain ⟨hp0,_⟩ := conj_of hp
 exact (loop_gen (hp0) h (fun y0 k0 hp h => by
 unfold st_Zb_0 at h; obtain ⟨hp0,hp1,_⟩ := conj_of hp
 exact (br' h (fun e1 h => ⟨(hp0 e1),(hp1 e1),(br' h (fun e2 h => h)
  (fun e2 h => h))⟩)
  (fun e1 h => h))))
/-- Whether a number is a reading. -/
def v_val (x:Int):Bool := s_Z3 x (-100000) 100000
def v_sidx (l:gF):Int := v_scan (fun i x => cond (!(v_val x)) (some i) none) (-1) 0 l
theorem l_Zb_0 (p0:gF) (p1:PUnit) (hl:lenOk p0):OkL (st_Zb_0 p0 p1) (sp_Zb_0 p0 p1) 0∧lpv (0:Int) (st_Zb_0 p0 p1) 0 = v_scan (fun i x => cond (!(v_val x)) (some i) none) (-1) 0 p0 := by
 refine scan_is p0 0 (fun i x => cond (!(v_val x)) (some i) none) (-1) hl ?_ ?_
 ·refine ⟨by simp only [sp_Zb_0,fM,decide_eq_true_eq]; simp,by simp [st_Zb_0]⟩
 ·intro j hj
  have hj' : (j:Int) < p0.length := by omega
  refine ⟨by simp only [sp_Zb_0,fM,decide_eq_true_eq,Int.toNat_natCast]; simp <;> omega,?_⟩
  simp only [st_Zb_0,hj',decide_true,Int.toNat_natCast,cond_true,wrap_nat (show (j:Int)≤9223372036854775806 by unfold lenOk at hl; omega)]
  have e:s_Z4 (p0.getD j 0) (-100000) 100000 = v_val (p0.getD j 0) := rfl
  rw [e]
  cases v_val (p0.getD j 0) <;> rfl
abbrev t_Zb (p0:gF) (_p1:PUnit):Int := v_sidx p0
abbrev qre_Zb (p0:gF) (_p1:PUnit):List Prop := [lenOk p0]
theorem pp_Zb (p0:gF) (p1:PUnit) (hq:∀ p∈qre_Zb p0 p1,p):∀ p∈pre_Zb p0 p1,p := by
 simp only [pre_Zb,fM]
 exact ⟨(l_Zb_0 p0 p1 (conj_of hq).1).1,by simp⟩
theorem tt_Zb (p0:gF) (p1:PUnit) (hq:∀ p∈qre_Zb p0 p1,p):s_Zb p0 p1 = t_Zb p0 p1 := by
 exact (l_Zb_0 p0 p1 (conj_of hq).1).2

abbrev con_Zb:Con := ⟨P_Zb,R_Zb,fun x => qre_Zb x.1 x.2,fun x => t_Zb x.1 x.2⟩
theorem ok_Zb:ConOk Try.prog 137 con_Zb := okG k_Zb e_Zb hC_Zb fun x hx => tf_of (w_Zb_eq x.1 x.2 _) (d_Zb x.1 x.2 _ (pp_Zb x.1 x.2 hx) (tt_Zb x.1 x.2 hx))
def C_Z7:Cons := []
theorem hC_Z7:ConsOk Try.prog C_Z7 := ConsOk.nil
def w_Z7 (p0:gF) (K:Int→Prop):Prop := (∃ n0,(loopP (fun (y1:Int) k2 => ((((decide (y1 < (p0.length:Int)))=true) →((zz0≤y1) ∧((y1 < (p0.length:Int)) ∧(((((p0.getD y1.toNat zz0) != 0)=true) →(K (p0.getD y1.toNat zz0))) ∧((((p0.getD y1.toNat zz0) != 0)=false) →(k2 (IntKind.i64.wrap (y1 + 1)))))))) ∧(((decide (y1 < (p0.length:Int)))=false) →(K zz0)))) n0 zz0))
theorem w_Z7_eq (p0:gF) (K:Int→Prop):tfn F_Z7 A_Z7 C_Z7 P_Z7 R_Z7 p0 K = w_Z7 p0 K := by kernel_rfl
def st_Z7_0 (p0:gF) (y0:Int):Int ⊕ Int := (cond (decide (y0 < (p0.length:Int))) (cond ((p0.getD y0.toNat (0:Int)) != 0) (Sum.inr (p0.getD y0.toNat (0:Int))) (Sum.inl (IntKind.i64.wrap (y0 + 1)))) (Sum.inr (0:Int)))
abbrev sp_Z7_0 (p0:gF) (y0:Int):List Prop := [(((decide (y0 < (p0.length:Int)))=true)→((0:Int)≤y0)),(((decide (y0 < (p0.length:Int)))=true)→(y0 < (p0.length:Int)))]
def s_Z7 (p0:gF):Int := (lpv (0:Int) (st_Z7_0 p0) (0:Int))
abbrev pre_Z7 (p0:gF):List Prop := [(OkL (st_Z7_0 p0) (sp_Z7_0 p0) (0:Int))]
theorem d_Z7 (p0:gF) (K:Int→Prop) (hp:∀ p∈pre_Z7 p0,p) (h:K (s_Z7 p0)):w_Z7 p0 K := by
 unfold w_Z7
 unfold s_Z7 at h
 obtain ⟨hp0,_⟩ := conj_of hp
 exact (loop_gen (hp0) h (fun y0 k0 hp h => by
 unfold st_Z7_0 at h; obtain ⟨hp0,hp1,_⟩ := conj_of hp
 exact (br' h (fun e1 h => ⟨(hp0 e1),(hp1 e1),(br' h (fun e2 h => h)
  (fun e2 h => h))⟩)
  (fun e1 h => h))))
theorem l_Z7_0 (p0:gF) (hl:lenOk p0):OkL (st_Z7_0 p0) (sp_Z7_0 p0) 0∧lpv (0:Int) (st_Z7_0 p0) 0 = v_scan (fun _ x => cond (x != 0) (some x) none) (0:Int) 0 p0 := by
 refine scan_is p0 0 (fun _ x => cond (x != 0) (some x) none) (0:Int) hl ?_ ?_
 ·refine ⟨by simp only [sp_Z7_0,fM,decide_eq_true_eq]; simp,by simp [st_Z7_0]⟩
 ·intro j hj
  have hj' : (j:Int) < p0.length := by omega
  refine ⟨by simp only [sp_Z7_0,fM,decide_eq_true_eq,Int.toNat_natCast]; simp <;> omega,?_⟩
  simp only [st_Z7_0,hj',decide_true,Int.toNat_natCast,cond_true,wrap_nat (show (j:Int)≤9223372036854775806 by unfold lenOk at hl; omega)]
  generalize p0.getD j 0 = x
  cases (x != 0) <;> rfl
abbrev t_Z7 (p0:gF):Int := v_first p0
abbrev qre_Z7 (p0:gF):List Prop := [lenOk p0]
theorem pp_Z7 (p0:gF) (hq:∀ p∈qre_Z7 p0,p):∀ p∈pre_Z7 p0,p := by
 simp only [pre_Z7,fM]
 exact ⟨(l_Z7_0 p0 (conj_of hq).1).1,by simp⟩
theorem tt_Z7 (p0:gF) (hq:∀ p∈qre_Z7 p0,p):s_Z7 p0 = t_Z7 p0 := by
 exact (l_Z7_0 p0 (conj_of hq).1).2.trans (v_first_scan p0 0)

abbrev con_Z7:Con := ⟨P_Z7,R_Z7,fun x => qre_Z7 x,fun x => t_Z7 x⟩
theorem ok_Z7:ConOk Try.prog 71 con_Z7 := okG k_Z7 e_Z7 hC_Z7 fun x hx => tf_of (w_Z7_eq x _) (d_Z7 x _ (pp_Z7 x hx) (tt_Z7 x hx))
def C_Z2:Cons := []
theorem hC_Z2:ConsOk Try.prog C_Z2 := ConsOk.nil
def w_Z2 (p0:Bool) (p1:Int) (K:Int→Prop):Prop := (((p0 = true) →(K zz0)) ∧((p0 = false) →(K p1)))
theorem w_Z2_eq (p0:Bool) (p1:Int) (K:Int→Prop):tfn F_Z2 A_Z2 C_Z2 P_Z2 R_Z2 (p0,p1) K = w_Z2 p0 p1 K := by kernel_rfl
def s_Z2 (p0:Bool) (p1:Int):Int := (cond p0 (0:Int) p1)
abbrev pre_Z2 (_p0:Bool) (_p1:Int):List Prop := []
theorem d_Z2 (p0:Bool) (p1:Int) (K:Int→Prop) (_hp:∀ p∈pre_Z2 p0 p1,p) (h:K (s_Z2 p0 p1)):w_Z2 p0 p1 K := by
 unfold w_Z2
 unfold s_Z2 at h
 exact (br' h (fun e0 h => h)
  (fun e0 h => h))
abbrev con_Z2:Con := ⟨P_Z2,R_Z2,fun x => pre_Z2 x.1 x.2,fun x => s_Z2 x.1 x.2⟩
theorem ok_Z2:ConOk Try.prog 66 con_Z2 := okG k_Z2 e_Z2 hC_Z2 fun x hx => tf_of (w_Z2_eq x.1 x.2 _) (d_Z2 x.1 x.2 _ hx rfl)
theorem tx_unless {a:Bool} {x:Int}:s_Z2 a x = cond a 0 x := by cases a <;> rfl
def C_Zm:Cons := [(137,[125],con_Zb)]
theorem hC_Zm:ConsOk Try.prog C_Zm := cC ok_Zb <| ConsOk.nil
def w_Zm (p0:gF) (_p1:PUnit) (K:Bool→Prop):Prop := ((lenOk p0) ∧(K (decide ((v_sidx p0) ≥ 0))))
theorem w_Zm_eq (p0:gF) (p1:PUnit) (K:Bool→Prop):tfn F_Zm A_Zm C_Zm P_Zm R_Zm (p0,p1) K = w_Zm p0 p1 K := by kernel_rfl
def s_Zm (p0:gF) (_p1:PUnit):Bool := (decide ((v_sidx p0) ≥ 0))
abbrev pre_Zm (p0:gF) (_p1:PUnit):List Prop := [(lenOk p0)]
theorem d_Zm (p0:gF) (p1:PUnit) (K:Bool→Prop) (hp:∀ p∈pre_Zm p0 p1,p) (h:K (s_Zm p0 p1)):w_Zm p0 p1 K := by
 unfold w_Zm
 unfold s_Zm at h
 obtain ⟨hp0,_⟩ := conj_of hp
 exact ⟨(hp0),h⟩
abbrev con_Zm:Con := ⟨P_Zm,R_Zm,fun x => pre_Zm x.1 x.2,fun x => s_Zm x.1 x.2⟩
theorem ok_Zm:ConOk Try.prog 124 con_Zm := okG k_Zm e_Zm hC_Zm fun x hx => tf_of (w_Zm_eq x.1 x.2 _) (d_Zm x.1 x.2 _ hx rfl)
def C_Zc:Cons := [(124,[125],con_Zm),(66,[],con_Z2),(71,[],con_Z7)]
theorem hC_Zc:ConsOk Try.prog C_Zc := cC ok_Zm <| cC ok_Z2 <| cC ok_Z7 <| ConsOk.nil
def w_Zc (p0:gF) (K:Int→Prop):Prop := ((lenOk p0) ∧((lenOk ((s_Z2 (decide ((p0.length:Int) > 0)) (10:Int)) :: ((s_Z2 (decide ((p0.length:Int)≤40)) (8:Int)) :: ((s_Z2 (!(decide ((v_sidx p0) ≥ 0))) (2:Int)) :: ([]:List Int))))) ∧(K (v_first ((s_Z2 (decide ((p0.length:Int) > 0)) (10:Int)) :: ((s_Z2 (decide ((p0.length:Int)≤40)) (8:Int)) :: ((s_Z2 (!(decide ((v_sidx p0) ≥ 0))) (2:Int)) :: ([]:List Int))))))))
theorem w_Zc_eq (p0:gF) (K:Int→Prop):tfn F_Zc A_Zc C_Zc P_Zc R_Zc p0 K = w_Zc p0 K := by kernel_rfl
def s_Zc (p0:gF):Int := (v_first ((s_Z2 (decide ((p0.length:Int) > 0)) (10:Int)) :: ((s_Z2 (decide ((p0.length:Int)≤40)) (8:Int)) :: ((s_Z2 (!(decide ((v_sidx p0) ≥ 0))) (2:Int)) :: ([]:List Int)))))
abbrev pre_Zc (p0:gF):List Prop := [(lenOk p0)]
theorem d_Zc (p0:gF) (K:Int→Prop) (hp:∀ p∈pre_Zc p0,p) (h:K (s_Zc p0)):w_Zc p0 K := by
 unfold w_Zc
 unfold s_Zc at h
 obtain ⟨hp0,_⟩ := conj_of hp
 exact ⟨(hp0),(lenOk_of 3 rfl (by decide)),h⟩
/-- What is wrong with a series. -/
def v_serr (l:gF):Int := cond ((l.length:Int) == 0) 10 (cond (decide ((l.length:Int) > 40)) 8 (cond (l.all v_val) 0 2))
structure v_ser (l:gF):Prop where
 ne:0 < l.length
 len:l.length≤40
 ok:∀ x∈l,-100000≤x∧x≤100000
theorem v_serr_ok {l:List Int} (h:v_serr l = 0):v_ser l := by
 unfold v_serr at h
 rcases int0 (l.length:Int) with ⟨_,_,e0⟩ | ⟨h0,_,e0⟩ <;> rw [e0] at h
 ·cases h
 rcases dec0 (a := 40) (b := (l.length:Int)) with ⟨_,_,_,_,e1⟩ | ⟨h1,_,_,_,e1⟩ <;> rw [e1] at h
 ·cases h
 cases c:l.all v_val <;> rw [c] at h
 ·cases h
 ·exact ⟨by omega,by omega,fun x hx => tx_within.1 (List.all_eq_true.1 c x hx)⟩
theorem v_ser_get {l:List Int} (h:v_ser l) {i:Nat} (hi:i < l.length) : -100000≤l.getD i 0∧l.getD i 0≤100000 := h.ok _ (getD_mem' 0 hi)
abbrev t_Zc (p0:gF):Int := v_serr p0
abbrev qre_Zc (p0:gF):List Prop := [lenOk p0]
theorem pp_Zc (p0:gF) (hq:∀ p∈qre_Zc p0,p):∀ p∈pre_Zc p0,p := by
 obtain ⟨h1,_⟩ := conj_of hq
 simp only [pre_Zc,fM]
 exact ⟨h1,by simp⟩
theorem tt_Zc (p0:gF) (_hq:∀ p∈qre_Zc p0,p):s_Zc p0 = t_Zc p0 := by
 unfold s_Zc t_Zc v_serr v_sidx
 rw [v_scan_idx (c := fun x => !(v_val x)) p0 0 (Int.le_refl _),show p0.any (fun x => !(v_val x)) = !(p0.all v_val) by rw [List.not_all_eq_any_not],Bool.not_not]
 unfold s_Z2
 rcases int0 (p0.length:Int) with ⟨h0,_,e0⟩ | ⟨h0,_,e0⟩ <;> rw [e0]
 ·rw [h0]; rfl
 ·rw [decide_eq_true (show (p0.length:Int) > 0 by omega)]
  rcases dec0 (a := 40) (b := (p0.length:Int)) with ⟨_,_,_,e1,e2⟩ | ⟨_,_,_,e1,e2⟩ <;> rw [e1,e2]
  ·rfl
  ·cases p0.all v_val <;> rfl

abbrev con_Zc:Con := ⟨P_Zc,R_Zc,fun x => qre_Zc x,fun x => t_Zc x⟩
theorem ok_Zc:ConOk Try.prog 100 con_Zc := okG k_Zc e_Zc hC_Zc fun x hx => tf_of (w_Zc_eq x _) (d_Zc x _ (pp_Zc x hx) (tt_Zc x hx))
def C_Zl:Cons := [(17,[],con_Z3)]
theorem hC_Zl:ConsOk Try.prog C_Zl := cC ok_Z3 <| ConsOk.nil
def w_Zl (p0:Int) (K:Bool→Prop):Prop := (K (s_Z3 p0 (-100000:Int) (100000:Int)))
theorem w_Zl_eq (p0:Int) (K:Bool→Prop):tfn F_Zl A_Zl C_Zl P_Zl R_Zl p0 K = w_Zl p0 K := by kernel_rfl
def s_Zl (p0:Int):Bool := (s_Z3 p0 (-100000:Int) (100000:Int))
abbrev pre_Zl (_p0:Int):List Prop := []
theorem d_Zl (p0:Int) (K:Bool→Prop) (_hp:∀ p∈pre_Zl p0,p) (h:K (s_Zl p0)):w_Zl p0 K := by
 unfold w_Zl
 unfold s_Zl at h
 exact h
abbrev con_Zl:Con := ⟨P_Zl,R_Zl,fun x => pre_Zl x,fun x => s_Zl x⟩
theorem ok_Zl:ConOk Try.prog 90 con_Zl := okG k_Zl e_Zl hC_Zl fun x hx => tf_of (w_Zl_eq x _) (d_Zl x _ hx rfl)
def C_Z9:Cons := [(90,[],con_Zl)]
theorem hC_Z9:ConsOk Try.prog C_Z9 := cC ok_Zl <| ConsOk.nil
def w_Z9 (p0:gF) (K:Int→Prop):Prop := (((((p0.length:Int) == 0)=true) →(K (10:Int))) ∧((((p0.length:Int) == 0)=false) →((((decide ((p0.length:Int) > 40))=true) →(K (8:Int))) ∧(((decide ((p0.length:Int) > 40))=false) →(∃ n0,(loopP (fun (y1:Int) k2 => ((((decide (y1 < (p0.length:Int)))=true) →((zz0≤y1) ∧((y1 < (p0.length:Int)) ∧((((!(s_Z3 (p0.getD y1.toNat zz0) (-100000:Int) (100000:Int)))=true) →(K (2:Int))) ∧(((!(s_Z3 (p0.getD y1.toNat zz0) (-100000:Int) (100000:Int)))=false) →(k2 (IntKind.i64.wrap (y1 + 1)))))))) ∧(((decide (y1 < (p0.length:Int)))=false) →(K zz0)))) n0 zz0))))))
theorem w_Z9_eq (p0:gF) (K:Int→Prop):tfn F_Z9 A_Z9 C_Z9 P_Z9 R_Z9 p0 K = w_Z9 p0 K := by kernel_rfl
def st_Z9_0 (p0:gF) (y2:Int):Int ⊕ Int := (cond (decide (y2 < (p0.length:Int))) (cond (!(s_Z3 (p0.getD y2.toNat (0:Int)) (-100000:Int) (100000:Int))) (Sum.inr (2:Int)) (Sum.inl (IntKind.i64.wrap (y2 + 1)))) (Sum.inr (0:Int)))
abbrev sp_Z9_0 (p0:gF) (y2:Int):List Prop := [(((decide (y2 < (p0.length:Int)))=true)→((0:Int)≤y2)),(((decide (y2 < (p0.length:Int)))=true)→(y2 < (p0.length:Int)))]
def s_Z9 (p0:gF):Int := (cond ((p0.length:Int) == 0) (10:Int) (cond (decide ((p0.length:Int) > 40)) (8:Int) (lpv (0:Int) (st_Z9_0 p0) (0:Int))))
abbrev pre_Z9 (p0:gF):List Prop := [((((p0.length:Int) == 0)=false)→(((decide ((p0.length:Int) > 40))=false)→(OkL (st_Z9_0 p0) (sp_Z9_0 p0) (0:Int))))]
theorem d_Z9 (p0:gF) (K:Int→Prop) (hp:∀ p∈pre_Z9 p0,p) (h:K (s_Z9 p0)):w_Z9 p0 K := by
 unfold w_Z9
 unfold s_Z9 at h
 obtain ⟨hp0,_⟩ := conj_of hp
 exact (br' h (fun e0 h => h)
  (fun e0 h => (br' h (fun e1 h => h)
  (fun e1 h => (loop_gen (hp0 e0 e1) h (fun y2 k2 hp h => by
 unfold st_Z9_0 at h; obtain ⟨hp0,hp1,_⟩ := conj_of hp
 exact (br' h (fun e3 h => ⟨(hp0 e3),(hp1 e3),(br' h (fun e4 h => h)
  (fun e4 h => h))⟩)
  (fun e3 h => h))))))))
theorem l_Z9_0 (p0:gF) (hl:lenOk p0):OkL (st_Z9_0 p0) (sp_Z9_0 p0) 0∧lpv (0:Int) (st_Z9_0 p0) 0 = v_scan (fun _ x => cond (!(v_val x)) (some 2) none) 0 0 p0 := by
 refine scan_is p0 0 (fun _ x => cond (!(v_val x)) (some 2) none) 0 hl ?_ ?_
 ·refine ⟨by simp only [sp_Z9_0,fM,decide_eq_true_eq]; simp,by simp [st_Z9_0]⟩
 ·intro j hj
  have hj' : (j:Int) < p0.length := by omega
  refine ⟨by simp only [sp_Z9_0,fM,decide_eq_true_eq,Int.toNat_natCast]; simp <;> omega,?_⟩
  simp only [st_Z9_0,hj',decide_true,Int.toNat_natCast,cond_true,wrap_nat (show (j:Int)≤9223372036854775806 by unfold lenOk at hl; omega)]
  have e:s_Z3 (p0.getD j 0) (-100000) 100000 = v_val (p0.getD j 0) := rfl
  rw [e]
  cases v_val (p0.getD j 0) <;> rfl
abbrev t_Z9 (p0:gF):Int := v_serr p0
abbrev qre_Z9 (_p0:gF):List Prop := []
theorem pp_Z9 (p0:gF) (_hq:∀ p∈qre_Z9 p0,p):∀ p∈pre_Z9 p0,p := by
 simp only [pre_Z9,fM]
 exact ⟨fun _ h => (l_Z9_0 p0 (lenOk_le (n := 40) (by have := of_decide_eq_false h; omega) (by decide))).1,by simp⟩
theorem tt_Z9 (p0:gF) (_hq:∀ p∈qre_Z9 p0,p):s_Z9 p0 = t_Z9 p0 := by
 unfold s_Z9 t_Z9 v_serr
 cases h:decide ((p0.length:Int) > 40)
 ·rw [(l_Z9_0 p0 (lenOk_le (n := 40) (by have := of_decide_eq_false h; omega) (by decide))).2,v_scan_any,show p0.any (fun x => !(v_val x)) = !(p0.all v_val) by rw [List.not_all_eq_any_not]]
  cases p0.all v_val <;> rfl
 ·rfl

abbrev con_Z9:Con := ⟨P_Z9,R_Z9,fun x => qre_Z9 x,fun x => t_Z9 x⟩
theorem ok_Z9:ConOk Try.prog 48 con_Z9 := okG k_Z9 e_Z9 hC_Z9 fun x hx => tf_of (w_Z9_eq x _) (d_Z9 x _ (pp_Z9 x hx) (tt_Z9 x hx))
def C_Zd:Cons := []
theorem hC_Zd:ConsOk Try.prog C_Zd := ConsOk.nil
def w_Zd (p0:gF) (K:(List Int)→Prop):Prop := (((((List.length ([]:List Int)) + p0.length) * 8)≤140737488355328) ∧(K (([]:List Int) ++ p0)))
theorem w_Zd_eq (p0:gF) (K:(List Int)→Prop):tfnO F_Zd A_Zd C_Zd P_Zd E_Zd p0 K = w_Zd p0 K := by kernel_rfl
def s_Zd (p0:gF):(List Int) := (([]:List Int) ++ p0)
abbrev pre_Zd (p0:gF):List Prop := [((((List.length ([]:List Int)) + p0.length) * 8)≤140737488355328)]
theorem d_Zd (p0:gF) (K:(List Int)→Prop) (hp:∀ p∈pre_Zd p0,p) (h:K (s_Zd p0)):w_Zd p0 K := by
 unfold w_Zd
 unfold s_Zd at h
 obtain ⟨hp0,_⟩ := conj_of hp
 exact ⟨(hp0),h⟩
abbrev t_Zd (p0:gF):List Int := p0
abbrev qre_Zd (p0:gF):List Prop := [p0.length≤1000000]
theorem pp_Zd (p0:gF) (hq:∀ p∈qre_Zd p0,p):∀ p∈pre_Zd p0,p := by
 simp only [pre_Zd,fM]
 have := (conj_of hq).1
 exact ⟨by simp; omega,by simp⟩
theorem tt_Zd (p0:gF) (_hq:∀ p∈qre_Zd p0,p):s_Zd p0 = t_Zd p0 := by
 rfl

abbrev con_Zd:Con := ⟨P_Zd,[.one (.sl E_Zd)],fun x => qre_Zd x,fun x => t_Zd x⟩
theorem ok_Zd:ConOOk Try.prog 46 con_Zd := conO_tf (e := E_Zd) (ps := P_Zd) k_Zd e_Zd hC_Zd (fun x hx => tfo_of (w_Zd_eq x (fun z => z = t_Zd x)) (d_Zd x (fun z => z = t_Zd x) (pp_Zd x hx) (tt_Zd x hx)))
/-- Whether a sample is valid; what is wrong with one of samples; with samples. -/
def v_sval (x:Int×Int×Int×Int×Int):Bool := cond (s_Z3 x.1 0 1000000000000) (cond (s_Z3 x.2.1 (-10) 10) (cond (s_Z3 x.2.2.1 (-10) 10) (cond (s_Z3 x.2.2.2.1 (-10) 10) (s_Z3 x.2.2.2.2 (-100000) 100000) false) false) false) false
def v_cs1 (l:List (Int×Int×Int×Int×Int)) (i:Int) (x:Int×Int×Int×Int×Int):Option (Int×Int) := cond (v_sval x) (cond (cond (i == 0) true (decide (x.1 > (l.getD (i - 1).toNat (0,0,0,0,0)).1))) none (some (i,9))) (some (i,2))
def v_cs (l:List (Int×Int×Int×Int×Int)):Int×Int := cond ((l.length:Int) == 0) (0,10) (cond (decide ((l.length:Int) > 20)) (0,8) (v_scan (v_cs1 l) (0,0) 0 l))
def C_Zi:Cons := [(86,[],con_Z4)]
theorem hC_Zi:ConsOk Try.prog C_Zi := cC ok_Z4 <| ConsOk.nil
def w_Zi (p0:Int) (K:Bool→Prop):Prop := (K (s_Z4 p0 zz0 (1000000000000:Int)))
theorem w_Zi_eq (p0:Int) (K:Bool→Prop):tfn F_Zi A_Zi C_Zi P_Zi R_Zi p0 K = w_Zi p0 K := by kernel_rfl
def s_Zi (p0:Int):Bool := (s_Z4 p0 (0:Int) (1000000000000:Int))
abbrev pre_Zi (_p0:Int):List Prop := []
theorem d_Zi (p0:Int) (K:Bool→Prop) (_hp:∀ p∈pre_Zi p0,p) (h:K (s_Zi p0)):w_Zi p0 K := by
 unfold w_Zi
 unfold s_Zi at h
 exact h
abbrev con_Zi:Con := ⟨P_Zi,R_Zi,fun x => pre_Zi x,fun x => s_Zi x⟩
theorem ok_Zi:ConOk Try.prog 84 con_Zi := okG k_Zi e_Zi hC_Zi fun x hx => tf_of (w_Zi_eq x _) (d_Zi x _ hx rfl)
def C_Zj:Cons := [(83,[],con_Zf)]
theorem hC_Zj:ConsOk Try.prog C_Zj := cC ok_Zf <| ConsOk.nil
def w_Zj (p0:Int) (K:Bool→Prop):Prop := (K (s_Z4 p0 (-10:Int) (10:Int)))
theorem w_Zj_eq (p0:Int) (K:Bool→Prop):tfn F_Zj A_Zj C_Zj P_Zj R_Zj p0 K = w_Zj p0 K := by kernel_rfl
def s_Zj (p0:Int):Bool := (s_Z4 p0 (-10:Int) (10:Int))
abbrev pre_Zj (_p0:Int):List Prop := []
theorem d_Zj (p0:Int) (K:Bool→Prop) (_hp:∀ p∈pre_Zj p0,p) (h:K (s_Zj p0)):w_Zj p0 K := by
 unfold w_Zj
 unfold s_Zj at h
 exact h
abbrev con_Zj:Con := ⟨P_Zj,R_Zj,fun x => pre_Zj x,fun x => s_Zj x⟩
theorem ok_Zj:ConOk Try.prog 82 con_Zj := okG k_Zj e_Zj hC_Zj fun x hx => tf_of (w_Zj_eq x _) (d_Zj x _ hx rfl)
def C_Z0:Cons := [(66,[],con_Z2),(71,[],con_Z7),(84,[],con_Zi),(82,[],con_Zj),(85,[],con_Ze)]
theorem hC_Z0:ConsOk Try.prog C_Z0 := cC ok_Z2 <| cC ok_Z7 <| cC ok_Zi <| cC ok_Zj <| cC ok_Ze <| ConsOk.nil
abbrev q1_Z0 (p0:(List (Int×(Int×(Int×(Int×Int)))))) (y1:gG) := (p0.getD y1.1.toNat (zz0,(zz0,(zz0,(zz0,zz0)))))
abbrev q6_Z0 (p0:(List (Int×(Int×(Int×(Int×Int)))))) (y1:gG) := (s_Z4 (q1_Z0 p0 y1).1 zz0 (1000000000000:Int))
abbrev q2_Z0 (p0:(List (Int×(Int×(Int×(Int×Int)))))) (y1:gG) := (cond (q6_Z0 p0 y1) (s_Z4 (q1_Z0 p0 y1).2.1 (-10:Int) (10:Int)) false)
abbrev q0_Z0 (p0:(List (Int×(Int×(Int×(Int×Int)))))) (y1:gG) := (cond (q2_Z0 p0 y1) (s_Z4 (q1_Z0 p0 y1).2.2.1 (-10:Int) (10:Int)) false)
abbrev q4_Z0 (p0:(List (Int×(Int×(Int×(Int×Int)))))) (y1:gG) := (cond (q0_Z0 p0 y1) (s_Z4 (q1_Z0 p0 y1).2.2.2.1 (-10:Int) (10:Int)) false)
abbrev q3_Z0 (p0:(List (Int×(Int×(Int×(Int×Int)))))) (y1:gG) := ((s_Z2 (cond (q4_Z0 p0 y1) (s_Z4 (q1_Z0 p0 y1).2.2.2.2 (-100000:Int) (100000:Int)) false) zz2) :: ((s_Z2 (decide ((q1_Z0 p0 y1).1 > y1.2)) (9:Int)) :: ([]:List Int)))
abbrev q5_Z0 (p0:(List (Int×(Int×(Int×(Int×Int)))))) := ((s_Z2 (decide ((p0.length:Int) > zz0)) (10:Int)) :: ((s_Z2 (decide ((p0.length:Int)≤20)) (8:Int)) :: ([]:List Int)))
def w_Z0 (p0:(List (Int×(Int×(Int×(Int×Int)))))) (K:(Int×Int)→Prop):Prop := ((lenOk (q5_Z0 p0)) ∧(((((v_first (q5_Z0 p0)) != zz0)=true) →(K (zz0,(v_first (q5_Z0 p0))))) ∧((((v_first (q5_Z0 p0)) != zz0)=false) →(∃ n0,(loopP (fun (y1:gG) k2 => ((((decide (y1.1 < (p0.length:Int)))=true) →((zz0≤y1.1) ∧((y1.1 < (p0.length:Int)) ∧((((q6_Z0 p0 y1)=true) →((q6_Z0 p0 y1)=(q6_Z0 p0 y1))) ∧((((q6_Z0 p0 y1)=true) →((q6_Z0 p0 y1)=(q6_Z0 p0 y1))) ∧((((q6_Z0 p0 y1)=true) →((q6_Z0 p0 y1)=(q6_Z0 p0 y1))) ∧(((q6_Z0 p0 y1)=(q6_Z0 p0 y1)) ∧((((q2_Z0 p0 y1)=true) →((q2_Z0 p0 y1)=(q2_Z0 p0 y1))) ∧((((q2_Z0 p0 y1)=true) →((q2_Z0 p0 y1)=(q2_Z0 p0 y1))) ∧((((q2_Z0 p0 y1)=true) →((q2_Z0 p0 y1)=(q2_Z0 p0 y1))) ∧(((q2_Z0 p0 y1)=(q2_Z0 p0 y1)) ∧((((q0_Z0 p0 y1)=true) →((q0_Z0 p0 y1)=(q0_Z0 p0 y1))) ∧((((q0_Z0 p0 y1)=true) →((q0_Z0 p0 y1)=(q0_Z0 p0 y1))) ∧((((q0_Z0 p0 y1)=true) →((q0_Z0 p0 y1)=(q0_Z0 p0 y1))) ∧(((q0_Z0 p0 y1)=(q0_Z0 p0 y1)) ∧((((q4_Z0 p0 y1)=true) →((q4_Z0 p0 y1)=(q4_Z0 p0 y1))) ∧((((q4_Z0 p0 y1)=true) →((q4_Z0 p0 y1)=(q4_Z0 p0 y1))) ∧(((q4_Z0 p0 y1)=(q4_Z0 p0 y1)) ∧((lenOk (q3_Z0 p0 y1)) ∧(((((v_first (q3_Z0 p0 y1)) != zz0)=true) →(K (y1.1,(v_first (q3_Z0 p0 y1))))) ∧((((v_first (q3_Z0 p0 y1)) != zz0)=false) →(k2 ((wi (y1.1 + zz1)),(q1_Z0 p0 y1).1))))))))))))))))))))))) ∧(((decide (y1.1 < (p0.length:Int)))=false) →(K (zz0,zz0))))) n0 (zz0,(-1:Int)))))))
theorem w_Z0_eq (p0:(List (Int×(Int×(Int×(Int×Int)))))) (K:(Int×Int)→Prop):tfn F_Z0 A_Z0 C_Z0 P_Z0 R_Z0 p0 K = w_Z0 p0 K := by kernel_rfl
def st_Z0_0 (p0:(List (Int×(Int×(Int×(Int×Int)))))) (y1:gG):(Int×Int) ⊕ (Int×Int) := (cond (decide (y1.1 < (p0.length:Int))) (cond ((v_first ((s_Z2 (cond (cond (cond (cond (s_Z4 (p0.getD y1.1.toNat ((0:Int),((0:Int),((0:Int),(0,0))))).1 (0:Int) (1000000000000:Int)) (s_Z4 (p0.getD y1.1.toNat ((0:Int),((0:Int),((0:Int),(0,0))))).2.1 (-10:Int) (10:Int)) false) (s_Z4 (p0.getD y1.1.toNat ((0:Int),((0:Int),((0:Int),(0,0))))).2.2.1 (-10:Int) (10:Int)) false) (s_Z4 (p0.getD y1.1.toNat ((0:Int),((0:Int),((0:Int),(0,0))))).2.2.2.1 (-10:Int) (10:Int)) false) (s_Z4 (p0.getD y1.1.toNat ((0:Int),((0:Int),((0:Int),(0,0))))).2.2.2.2 (-100000:Int) (100000:Int)) false) (2:Int)) :: ((s_Z2 (decide ((p0.getD y1.1.toNat ((0:Int),((0:Int),((0:Int),(0,0))))).1 > y1.2)) (9:Int)) :: ([]:List Int)))) != 0) (Sum.inr (y1.1,(v_first ((s_Z2 (cond (cond (cond (cond (s_Z4 (p0.getD y1.1.toNat ((0:Int),((0:Int),((0:Int),(0,0))))).1 (0:Int) (1000000000000:Int)) (s_Z4 (p0.getD y1.1.toNat ((0:Int),((0:Int),((0:Int),(0,0))))).2.1 (-10:Int) (10:Int)) false) (s_Z4 (p0.getD y1.1.toNat ((0:Int),((0:Int),((0:Int),(0,0))))).2.2.1 (-10:Int) (10:Int)) false) (s_Z4 (p0.getD y1.1.toNat ((0:Int),((0:Int),((0:Int),(0,0))))).2.2.2.1 (-10:Int) (10:Int)) false) (s_Z4 (p0.getD y1.1.toNat ((0:Int),((0:Int),((0:Int),(0,0))))).2.2.2.2 (-100000:Int) (100000:Int)) false) (2:Int)) :: ((s_Z2 (decide ((p0.getD y1.1.toNat ((0:Int),((0:Int),((0:Int),(0,0))))).1 > y1.2)) (9:Int)) :: ([]:List Int)))))) (Sum.inl ((IntKind.i64.wrap (y1.1 + 1)),(p0.getD y1.1.toNat ((0:Int),((0:Int),((0:Int),(0,0))))).1))) (Sum.inr (0,0)))
abbrev sp_Z0_0 (p0:(List (Int×(Int×(Int×(Int×Int)))))) (y1:gG):List Prop := [(((decide (y1.1 < (p0.length:Int)))=true)→((0:Int)≤y1.1)),(((decide (y1.1 < (p0.length:Int)))=true)→(y1.1 < (p0.length:Int)))]
def s_Z0 (p0:(List (Int×(Int×(Int×(Int×Int)))))):(Int×Int) := (cond ((v_first ((s_Z2 (decide ((p0.length:Int) > 0)) (10:Int)) :: ((s_Z2 (decide ((p0.length:Int)≤20)) (8:Int)) :: ([]:List Int)))) != 0) ((0:Int),(v_first ((s_Z2 (decide ((p0.length:Int) > 0)) (10:Int)) :: ((s_Z2 (decide ((p0.length:Int)≤20)) (8:Int)) :: ([]:List Int))))) (lpv (0,0) (st_Z0_0 p0) ((0:Int),(-1:Int))))
abbrev pre_Z0 (p0:(List (Int×(Int×(Int×(Int×Int)))))):List Prop := [((((v_first ((s_Z2 (decide ((p0.length:Int) > 0)) (10:Int)) :: ((s_Z2 (decide ((p0.length:Int)≤20)) (8:Int)) :: ([]:List Int)))) != 0)=false)→(OkL (st_Z0_0 p0) (sp_Z0_0 p0) ((0:Int),(-1:Int))))]
theorem d_Z0 (p0:(List (Int×(Int×(Int×(Int×Int)))))) (K:(Int×Int)→Prop) (hp:∀ p∈pre_Z0 p0,p) (h:K (s_Z0 p0)):w_Z0 p0 K := by
 unfold w_Z0
 unfold s_Z0 at h
 obtain ⟨hp0,_⟩ := conj_of hp
 exact ⟨(lenOk_of 2 rfl (by decide)),(br' h (fun e0 h => h)
  (fun e0 h => (loop_gen (hp0 e0) h (fun y1 k1 hp h => by
 unfold st_Z0_0 at h; obtain ⟨hp0,hp1,_⟩ := conj_of hp
 exact (br' h (fun e2 h => ⟨(hp0 e2),(hp1 e2),rf,rf,rf,rfl,rf,rf,rf,rfl,rf,rf,rf,rfl,rf,rf,rfl,(lenOk_of 2 rfl (by decide)),(br' h (fun e3 h => h)
  (fun e3 h => h))⟩)
  (fun e2 h => h))))))⟩
theorem tx_csh {n:Int} (h:0≤n):v_first [s_Z2 (decide (n > 0)) 10,s_Z2 (decide (n≤20)) 8]=cond (n == 0) 10 (cond (decide (n > 20)) 8 0) := by
 unfold s_Z2
 rcases int0 n with ⟨h0,_,e0⟩ | ⟨h0,_,e0⟩
 ·subst h0; rfl
 ·rw [e0,decide_eq_true (show n > 0 by omega)]
  rcases dec0 (a := 20) (b := n) with ⟨_,_,_,e1,e2⟩ | ⟨_,_,_,e1,e2⟩ <;> rw [e1,e2] <;> rfl
theorem tx_len {p0:List (Int×Int×Int×Int×Int)} (h:(v_first [s_Z2 (decide ((p0.length:Int) > 0)) 10,s_Z2 (decide ((p0.length:Int)≤20)) 8] != 0)=false):p0.length≤20 := by
 rw [tx_csh (by omega)] at h
 cases c:decide ((p0.length:Int) > 20)
 ·have := of_decide_eq_false c; omega
 ·rw [c] at h
  cases c2:((p0.length:Int) == 0) <;> rw [c2] at h <;> cases h
theorem v_svalm {x:Int×Int×Int×Int×Int}:cond (cond (cond (cond (s_Z4 x.1 0 1000000000000) (s_Z4 x.2.1 (-10) 10) false) (s_Z4 x.2.2.1 (-10) 10) false) (s_Z4 x.2.2.2.1 (-10) 10) false) (s_Z4 x.2.2.2.2 (-100000) 100000) false = v_sval x := by
 rw [tx_withinG,tx_withinG,tx_withinG,tx_withinG,tx_withinG]
 unfold v_sval
 cases s_Z3 x.1 0 1000000000000 <;> cases s_Z3 x.2.1 (-10) 10 <;> cases s_Z3 x.2.2.1 (-10) 10 <;> cases s_Z3 x.2.2.2.1 (-10) 10 <;> rfl
theorem v_sval_t {x:Int×Int×Int×Int×Int} (h:v_sval x = true):0≤x.1 := by
 unfold v_sval at h
 cases c:s_Z3 x.1 0 1000000000000
 ·rw [c] at h; cases h
 ·exact (tx_within.1 c).1
theorem l_Z0_0 (p0:List (Int×Int×Int×Int×Int)) (hl:p0.length≤20):OkL (st_Z0_0 p0) (sp_Z0_0 p0) (0,-1)∧lpv ((0,0):Int×Int) (st_Z0_0 p0) (0,-1)=v_scan (v_cs1 p0) ((0,0):Int×Int) 0 p0 := by
 refine @for_is Int (Int×Int) (Int×Int) (0,0) (st_Z0_0 p0) (sp_Z0_0 p0) (fun i t => (i,t)) 0 p0.length (fun j t => t = if j = 0 then -1 else (p0.getD (j - 1) (0,0,0,0,0)).1) (fun j _ => v_scan (v_cs1 p0) ((0,0):Int×Int) (j:Int) (p0.drop j)) (by omega) (by omega) ?_ ?_ (-1) rfl
 ·intro t _
  rw [List.drop_length]
  simp only [sp_Z0_0,st_Z0_0,fM,show decide ((p0.length:Int) < (p0.length:Int))=false from decide_eq_false (by omega),cond_false]
  refine ⟨?_,rfl⟩
  and_intros
  all_goals first
   | (intro h; cases h; done)
   | (intro p hp; cases hp)
 ·intro j t _ hj ht
  have hd1:decide ((j:Int) < (p0.length:Int))=true := decide_eq_true (by omega)
  have hw1:IntKind.i64.wrap ((j:Int) + 1)=((j + 1:Nat):Int) := wrap_id (by omega) (by omega)
  rw [drop_getD (0,0,0,0,0) hj]
  have e:v_scan (v_cs1 p0) ((0,0):Int×Int) (j:Int) (p0.getD j (0,0,0,0,0) :: p0.drop (j + 1))=match v_cs1 p0 (j:Int) (p0.getD j (0,0,0,0,0)) with | none => v_scan (v_cs1 p0) ((0,0):Int×Int) ((j:Int) + 1) (p0.drop (j + 1)) | some v => v := by simp only [v_scan]; cases v_cs1 p0 (j:Int) (p0.getD j (0,0,0,0,0)) <;> rfl
  rw [e,show (j:Int) + 1 = ((j + 1:Nat):Int) by omega]
  simp only [sp_Z0_0,st_Z0_0,fM,hd1,cond_true,hw1,Int.toNat_natCast,v_svalm]
  refine ⟨?_,?_⟩
  ·and_intros
   all_goals first
    | (intro p hp; cases hp; done)
    | (intros; omega)
  ·unfold v_cs1
   cases hv:v_sval (p0.getD j (0,0,0,0,0))
   ·exact .inr rfl
   ·have h0 := v_sval_t hv
    rcases Nat.eq_zero_or_pos j with rfl | hp
    ·rw [if_pos rfl] at ht
     rw [ht,decide_eq_true (show (p0.getD 0 (0,0,0,0,0)).1 > -1 by omega)]
     exact .inl ⟨_,rfl,by simp,rfl⟩
    ·rw [if_neg (by omega)] at ht
     rw [show ((j:Int) == 0)=false from beq_eq_false_iff_ne.2 (by omega),show ((j:Int) - 1).toNat = j - 1 by omega,ht]
     cases decide ((p0.getD j (0,0,0,0,0)).1 > (p0.getD (j - 1) (0,0,0,0,0)).1)
     ·exact .inr rfl
     ·exact .inl ⟨_,rfl,by simp,rfl⟩
abbrev t_Z0 (p0:List (Int×Int×Int×Int×Int)):Int×Int := v_cs p0
abbrev qre_Z0 (_p0:List (Int×Int×Int×Int×Int)):List Prop := []
theorem pp_Z0 (p0:List (Int×Int×Int×Int×Int)) (_hq:∀ p∈qre_Z0 p0,p):∀ p∈pre_Z0 p0,p := by
 simp only [pre_Z0,fM]
 refine ⟨fun h => ?_,by simp⟩
 exact (l_Z0_0 p0 (tx_len h)).1
theorem tt_Z0 (p0:List (Int×Int×Int×Int×Int)) (_hq:∀ p∈qre_Z0 p0,p):s_Z0 p0 = t_Z0 p0 := by
 unfold s_Z0 t_Z0 v_cs
 rw [tx_csh (by omega)]
 cases h:decide ((p0.length:Int) > 20)
 ·rw [(l_Z0_0 p0 (by have := of_decide_eq_false h; omega)).2]
  cases ((p0.length:Int) == 0) <;> rfl
 ·cases ((p0.length:Int) == 0) <;> rfl

abbrev con_Z0:Con := ⟨P_Z0,R_Z0,fun x => qre_Z0 x,fun x => t_Z0 x⟩
theorem ok_Z0:ConOk Try.prog 32 con_Z0 := okG k_Z0 e_Z0 hC_Z0 fun x hx => tf_of (w_Z0_eq x _) (d_Z0 x _ (pp_Z0 x hx) (tt_Z0 x hx))
/-- Valid samples. -/
structure v_sok1 (q:Int×Int×Int×Int×Int):Prop where
 t:0≤q.1∧q.1≤1000000000000
 x : -10≤q.2.1∧q.2.1≤10
 y : -10≤q.2.2.1∧q.2.2.1≤10
 z : -10≤q.2.2.2.1∧q.2.2.2.1≤10
 v : -100000≤q.2.2.2.2∧q.2.2.2.2≤100000
structure v_smp (l:List (Int×Int×Int×Int×Int)):Prop where
 ne:l ≠ []
 len:l.length≤20
 ok:∀ x∈l,v_sok1 x
 asc:∀ k,0 < k→k < l.length→(l.getD (k - 1) (0,0,0,0,0)).1 < (l.getD k (0,0,0,0,0)).1
theorem v_sval_iff {x:Int×Int×Int×Int×Int}:v_sval x = true ↔ v_sok1 x := by
 unfold v_sval
 constructor
 ·intro h
  cases c1:s_Z3 x.1 0 1000000000000 <;> cases c2:s_Z3 x.2.1 (-10) 10 <;> cases c3:s_Z3 x.2.2.1 (-10) 10 <;> cases c4:s_Z3 x.2.2.2.1 (-10) 10 <;> cases c5:s_Z3 x.2.2.2.2 (-100000) 100000 <;> rw [c1,c2,c3,c4,c5] at h <;> try (cases h; done)
  exact ⟨tx_within.1 c1,tx_within.1 c2,tx_within.1 c3,tx_within.1 c4,tx_within.1 c5⟩
 ·rintro ⟨h1,h2,h3,h4,h5⟩
  rw [tx_within.2 h1,tx_within.2 h2,tx_within.2 h3,tx_within.2 h4,tx_within.2 h5]; rfl
theorem v_cs1_none {l:List (Int×Int×Int×Int×Int)} {k:Nat} {x:Int×Int×Int×Int×Int}:v_cs1 l (k:Int) x = none ↔ v_sok1 x∧(0 < k→(l.getD (k - 1) (0,0,0,0,0)).1 < x.1) := by
 unfold v_cs1
 have hk:((k:Int) - 1).toNat = k - 1 := by omega
 rw [hk]
 cases hv:v_sval x
 ·simp only [cond_false,reduceCtorEq,false_iff]
  rintro ⟨h,_⟩
  rw [v_sval_iff.2 h] at hv; cases hv
 ·have hs := v_sval_iff.1 hv
  rcases int0 (k:Int) with ⟨h0,_,e⟩ | ⟨h0,_,e⟩ <;> rw [e]
  ·simp only [cond_true,true_iff]
   exact ⟨hs,fun h => by omega⟩
  ·simp only [cond_true,cond_false]
   cases c:decide (x.1 > (l.getD (k - 1) (0,0,0,0,0)).1)
   ·have := of_decide_eq_false c
    simp only [cond_false,reduceCtorEq,false_iff]
    rintro ⟨_,h⟩
    have := h (by omega)
    omega
   ·have := of_decide_eq_true c
    simp only [cond_true,true_iff]
    exact ⟨hs,fun _ => this⟩
theorem v_cs_iff {l:List (Int×Int×Int×Int×Int)}:(v_cs l).2 = 0 ↔ v_smp l := by
 constructor
 ·intro h
  unfold v_cs at h
  rcases int0 (l.length:Int) with ⟨_,_,e0⟩ | ⟨h0,_,e0⟩
  ·rw [e0] at h; cases h
  rw [e0] at h
  rcases dec0 (a := 20) (b := (l.length:Int)) with ⟨_,_,_,_,e1⟩ | ⟨h1,_,_,_,e1⟩
  ·rw [e1] at h; cases h
  rw [e1] at h
  simp only [cond_false] at h
  have key := v_scan_end (f := v_cs1 l) (e := ((0,0):Int×Int)) (P := fun (r:gG) => r.2 = 0) l 0 h (fun j x v _ hv hv0 => by
   unfold v_cs1 at hv
   cases c1:v_sval x <;> rw [c1] at hv
   ·simp only [cond_false,sJ] at hv; subst hv; cases hv0
   ·cases c2:cond (j == 0) true (decide (x.1 > (l.getD (j - 1).toNat (0,0,0,0,0)).1)) <;> rw [c2] at hv
    ·simp only [cond_true,cond_false,sJ] at hv; subst hv; cases hv0
    ·cases hv)
  have key2:∀ k,(hk:k < l.length)→v_sok1 (l.getD k (0,0,0,0,0))∧(0 < k→(l.getD (k - 1) (0,0,0,0,0)).1 < (l.getD k (0,0,0,0,0)).1) := fun k hk => by
   have := key k hk
   rw [Int.zero_add] at this
   rw [gd_get (0,0,0,0,0) hk]
   exact v_cs1_none.1 this
  refine ⟨by rintro rfl; exact h0 rfl,by omega,fun x hx => ?_,fun k h0 hk => (key2 k hk).2 h0⟩
  obtain ⟨k,hk,rfl⟩ := List.getElem_of_mem hx
  rw [← gd_get (0,0,0,0,0) hk]
  exact (key2 k hk).1
 ·intro h
  have h0:0 < l.length := List.length_pos_iff.2 h.ne
  have hl := h.len
  unfold v_cs
  rw [show ((l.length:Int) == 0)=false from beq_eq_false_iff_ne.2 (by omega),decide_eq_false (show ¬ (l.length:Int) > 20 by omega)]
  simp only [cond_false]
  have key:∀ (r:List (Int×Int×Int×Int×Int)) (k:Nat),l.drop k = r→v_scan (v_cs1 l) ((0,0):Int×Int) (k:Int) r = (0,0) := by
   intro r
   induction r with
   | nil => intro k _; rfl
   | cons x r ih =>
    intro k e
    have hk:k < l.length := by
     rcases Nat.lt_or_ge k l.length with g | g
     ·exact g
     ·rw [List.drop_eq_nil_of_le g] at e; cases e
    rw [drop_getD (0,0,0,0,0) hk] at e
    simp only [List.cons.injEq] at e
    obtain ⟨e1,e2⟩ := e
    unfold v_scan
    rw [v_cs1_none.2 ⟨e1 ▸ h.ok _ (getD_mem' _ hk),fun h0 => e1 ▸ h.asc k h0 hk⟩]
    have := ih (k + 1) e2
    rw [Int.natCast_add] at this
    exact this
  rw [show v_scan (v_cs1 l) ((0,0):Int×Int) 0 l = (0,0) from key l 0 rfl]
def C_Zh:Cons := [(32,[],con_Z0)]
theorem hC_Zh:ConsOk Try.prog C_Zh := cC ok_Z0 <| ConsOk.nil
def w_Zh (p0:(List (Int×(Int×(Int×(Int×Int)))))) (K:Int→Prop):Prop := (K (v_cs p0).2)
theorem w_Zh_eq (p0:(List (Int×(Int×(Int×(Int×Int)))))) (K:Int→Prop):tfn F_Zh A_Zh C_Zh P_Zh R_Zh p0 K = w_Zh p0 K := by kernel_rfl
def s_Zh (p0:(List (Int×(Int×(Int×(Int×Int)))))):Int := (v_cs p0).2
abbrev pre_Zh (_p0:(List (Int×(Int×(Int×(Int×Int)))))):List Prop := []
theorem d_Zh (p0:(List (Int×(Int×(Int×(Int×Int)))))) (K:Int→Prop) (_hp:∀ p∈pre_Zh p0,p) (h:K (s_Zh p0)):w_Zh p0 K := by
 unfold w_Zh
 unfold s_Zh at h
 exact h
abbrev con_Zh:Con := ⟨P_Zh,R_Zh,fun x => pre_Zh x,fun x => s_Zh x⟩
theorem ok_Zh:ConOk Try.prog 72 con_Zh := okG k_Zh e_Zh hC_Zh fun x hx => tf_of (w_Zh_eq x _) (d_Zh x _ hx rfl)
def C_Z8:Cons := []
theorem hC_Z8:ConsOk Try.prog C_Z8 := ConsOk.nil
def w_Z8 (p0:gF) (p1:gF) (p2:Int) (K:(Int×Int)→Prop):Prop := (∃ n0,(loopP (fun (y1:(Int×(Int×Int))) k2 => ((((decide (y1.1 < (IntKind.i64.wrap ((p0.length:Int) - p2))))=true) →((zz0≤(IntKind.i64.wrap (y1.1 + p2))) ∧(((IntKind.i64.wrap (y1.1 + p2)) < (p0.length:Int)) ∧((zz0≤(IntKind.i64.wrap (y1.1 - p2))) ∧(((IntKind.i64.wrap (y1.1 - p2)) < (p1.length:Int)) ∧(k2 ((IntKind.i64.wrap (y1.1 + 1)),((IntKind.i64.wrap (y1.2.1 + 1)),(IntKind.i64.wrap (y1.2.2 + (max (IntKind.i64.wrap ((p0.getD (Int.toNat (IntKind.i64.wrap (y1.1 + p2))) zz0) - (p1.getD (Int.toNat (IntKind.i64.wrap (y1.1 - p2))) zz0))) (IntKind.i64.wrap (zz0 - (IntKind.i64.wrap ((p0.getD (Int.toNat (IntKind.i64.wrap (y1.1 + p2))) zz0) - (p1.getD (Int.toNat (IntKind.i64.wrap (y1.1 - p2))) zz0)))))))))))))))) ∧(((decide (y1.1 < (IntKind.i64.wrap ((p0.length:Int) - p2))))=false) →(K (y1.2.2,y1.2.1))))) n0 (p2,(zz0,zz0))))
theorem w_Z8_eq (p0:gF) (p1:gF) (p2:Int) (K:(Int×Int)→Prop):tfn F_Z8 A_Z8 C_Z8 P_Z8 R_Z8 (p0,p1,p2) K = w_Z8 p0 p1 p2 K := by kernel_rfl
def st_Z8_0 (p0:gF) (p1:gF) (p2:Int) (y0:(Int×(Int×Int))):(Int×(Int×Int)) ⊕ (Int×Int) := (cond (decide (y0.1 < (IntKind.i64.wrap ((p0.length:Int) - p2)))) (Sum.inl ((IntKind.i64.wrap (y0.1 + 1)),((IntKind.i64.wrap (y0.2.1 + 1)),(IntKind.i64.wrap (y0.2.2 + (max (IntKind.i64.wrap ((p0.getD (Int.toNat (IntKind.i64.wrap (y0.1 + p2))) (0:Int)) - (p1.getD (Int.toNat (IntKind.i64.wrap (y0.1 - p2))) (0:Int)))) (IntKind.i64.wrap ((0:Int) - (IntKind.i64.wrap ((p0.getD (Int.toNat (IntKind.i64.wrap (y0.1 + p2))) (0:Int)) - (p1.getD (Int.toNat (IntKind.i64.wrap (y0.1 - p2))) (0:Int)))))))))))) (Sum.inr (y0.2.2,y0.2.1)))
abbrev sp_Z8_0 (p0:gF) (p1:gF) (p2:Int) (y0:(Int×(Int×Int))):List Prop := [(((decide (y0.1 < (IntKind.i64.wrap ((p0.length:Int) - p2))))=true)→((0:Int)≤(IntKind.i64.wrap (y0.1 + p2)))),(((decide (y0.1 < (IntKind.i64.wrap ((p0.length:Int) - p2))))=true)→((IntKind.i64.wrap (y0.1 + p2)) < (p0.length:Int))),(((decide (y0.1 < (IntKind.i64.wrap ((p0.length:Int) - p2))))=true)→((0:Int)≤(IntKind.i64.wrap (y0.1 - p2)))),(((decide (y0.1 < (IntKind.i64.wrap ((p0.length:Int) - p2))))=true)→((IntKind.i64.wrap (y0.1 - p2)) < (p1.length:Int)))]
def s_Z8 (p0:gF) (p1:gF) (p2:Int):(Int×Int) := (lpv (0,0) (st_Z8_0 p0 p1 p2) (p2,(0,0)))
abbrev pre_Z8 (p0:gF) (p1:gF) (p2:Int):List Prop := [(OkL (st_Z8_0 p0 p1 p2) (sp_Z8_0 p0 p1 p2) (p2,(0,0)))]
theorem d_Z8 (p0:gF) (p1:gF) (p2:Int) (K:(Int×Int)→Prop) (hp:∀ p∈pre_Z8 p0 p1 p2,p) (h:K (s_Z8 p0 p1 p2)):w_Z8 p0 p1 p2 K := by
 unfold w_Z8
 unfold s_Z8 at h
 obtain ⟨hp0,_⟩ := conj_of hp
 exact (loop_gen (hp0) h (fun y0 k0 hp h => by
 unfold st_Z8_0 at h; obtain ⟨hp0,hp1,hp2,hp3,_⟩ := conj_of hp
 exact (br' h (fun e1 h => ⟨(hp0 e1),(hp1 e1),(hp2 e1),(hp3 e1),h⟩)
  (fun e1 h => h))))
/-- How far two series miss one another by a lag: the sum,the count. -/
def v_ms (o b:gF) (g:Nat):Nat→Int
 | 0 => 0
 | k + 1 => v_ms o b g k + max (o.getD (k + 2 * g) 0 - b.getD k 0) (0 - (o.getD (k + 2 * g) 0 - b.getD k 0))
def v_mis (o b:gF) (g:Nat):Int×Int := (v_ms o b g (o.length - 2 * g),((o.length - 2 * g:Nat):Int))
theorem v_ms_le {o b:List Int} {g:Nat} (h1:v_ser o) (h2:v_ser b) (he:o.length = b.length):∀ k:Nat,k + 2 * g≤o.length→0≤v_ms o b g k∧v_ms o b g k≤200000 * k
 | 0,_ => ⟨Int.le_refl _,Int.le_refl _⟩
 | k + 1,h => by
  have ih := v_ms_le (g := g) h1 h2 he k (by omega)
  have ga := v_ser_get h1 (show k + 2 * g < o.length by omega)
  have gb := v_ser_get h2 (show k < b.length by omega)
  unfold v_ms
  omega
theorem v_mis_le {o b:List Int} {g:Nat} (h1:v_ser o) (h2:v_ser b) (he:o.length = b.length):0≤(v_mis o b g).1∧(v_mis o b g).1≤8000000∧0≤(v_mis o b g).2∧(v_mis o b g).2≤40 := by
 have hl := h1.len
 unfold v_mis
 rcases Nat.lt_or_ge (2 * g) o.length with h | h
 ·have := v_ms_le h1 h2 he (g := g) (o.length - 2 * g) (by omega)
  simp only; omega
 ·rw [show o.length - 2 * g = 0 by omega]
  show (0:Int)≤0∧(0:Int)≤8000000∧(0:Int)≤0∧(0:Int)≤40
  decide
theorem v_mis_pos {o b:List Int} {g:Nat} (h:2 * g < o.length):0 < (v_mis o b g).2 := by unfold v_mis; simp only; omega
theorem l_Z8_0 (p0 p1:gF) (g:Nat) (h1:v_ser p0) (h2:v_ser p1) (he:p0.length = p1.length) (hg:g≤5):OkL (st_Z8_0 p0 p1 g) (sp_Z8_0 p0 p1 g) ((g:Int),0,0)∧lpv (0,0) (st_Z8_0 p0 p1 g) ((g:Int),0,0)=v_mis p0 p1 g := by
 have hl := h1.len
 have hne := h1.ne
 have hx:IntKind.i64.wrap ((p0.length:Int) - g)=(p0.length:Int) - g := wrap_id (by omega) (by omega)
 have main := @for_is (Int×Int) (Int×Int×Int) (Int×Int) (0,0) (st_Z8_0 p0 p1 g) (sp_Z8_0 p0 p1 g) (fun i t => (i,t)) g (max g (p0.length - g)) (fun j t => t = (((j - g:Nat):Int),v_ms p0 p1 g (j - g))) (fun _ _ => v_mis p0 p1 g) (by omega) (by omega) ?_ ?_ (0,0) (by rw [Nat.sub_self]; rfl)
 ·exact main
 ·rintro t h1
  have hd:decide (((max g (p0.length - g):Nat):Int) < (p0.length:Int) - g)=false := decide_eq_false (by omega)
  have e1:max g (p0.length - g) - g = p0.length - 2 * g := by omega
  rw [e1] at h1
  simp only [sp_Z8_0,st_Z8_0,fM,hx,hd,cond_false,h1]
  refine ⟨?_,rfl⟩
  and_intros
  all_goals first
   | (intro h; cases h; done)
   | (intro p hp; cases hp)
 ·rintro j t h0 hj h3
  have hw1:IntKind.i64.wrap ((j:Int) + 1)=((j + 1:Nat):Int) := wrap_id (by omega) (by omega)
  have hw2:IntKind.i64.wrap ((j:Int) + g)=((j + g:Nat):Int) := wrap_id (by omega) (by omega)
  have hw3:IntKind.i64.wrap ((j:Int) - g)=((j - g:Nat):Int) := by rw [wrap_id (by omega) (by omega)]; omega
  have hw4:IntKind.i64.wrap (((j - g:Nat):Int) + 1)=((j + 1 - g:Nat):Int) := by rw [wrap_id (by omega) (by omega)]; omega
  have hd:decide ((j:Int) < (p0.length:Int) - g)=true := decide_eq_true (by omega)
  have ga := v_ser_get h1 (show j + g < p0.length by omega)
  have gb := v_ser_get h2 (show j - g < p1.length by omega)
  have hm := v_ms_le h1 h2 he (g := g) (j - g) (by omega)
  have hs:v_ms p0 p1 g (j + 1 - g)=v_ms p0 p1 g (j - g) + max (p0.getD (j + g) 0 - p1.getD (j - g) 0) (0 - (p0.getD (j + g) 0 - p1.getD (j - g) 0)) := by
   rw [show j + 1 - g = (j - g) + 1 by omega,show j + g = (j - g) + 2 * g by omega]; rfl
  simp only [sp_Z8_0,st_Z8_0,fM,hx,hd,cond_true,h3,hw1,hw2,hw3,hw4,Int.toNat_natCast]
  generalize p0.getD (j + g) 0 = a at *
  generalize p1.getD (j - g) 0 = b at *
  have w1:IntKind.i64.wrap (a - b)=a - b := wrap_id (by omega) (by omega)
  have w2:IntKind.i64.wrap (0 - (a - b))=0 - (a - b) := wrap_id (by omega) (by omega)
  have w3:IntKind.i64.wrap (v_ms p0 p1 g (j - g) + max (a - b) (0 - (a - b)))=v_ms p0 p1 g (j - g) + max (a - b) (0 - (a - b)) := wrap_id (by omega) (by omega)
  simp only [w1,w2,w3]
  refine ⟨?_,.inl ⟨(((j + 1 - g:Nat):Int),v_ms p0 p1 g (j + 1 - g)),by rw [hs],rfl,trivial⟩⟩
  and_intros
  all_goals first
   | (intro p hp; cases hp; done)
   | (intros; omega)
abbrev t_Z8 (p0:gF) (p1:gF) (p2:Int):Int×Int := v_mis p0 p1 p2.toNat
abbrev qre_Z8 (p0:gF) (p1:gF) (p2:Int):List Prop := [v_ser p0,v_ser p1,p0.length = p1.length,0≤p2∧p2≤5]
theorem pp_Z8 (p0:gF) (p1:gF) (p2:Int) (hq:∀ p∈qre_Z8 p0 p1 p2,p):∀ p∈pre_Z8 p0 p1 p2,p := by
 obtain ⟨h1,h2,h3,h4,_⟩ := conj_of hq
 obtain ⟨g,rfl⟩ : ∃ g:Nat,p2 = g := ⟨p2.toNat,by omega⟩
 simp only [pre_Z8,fM]
 exact ⟨(l_Z8_0 p0 p1 g h1 h2 h3 (by omega)).1,by simp⟩
theorem tt_Z8 (p0:gF) (p1:gF) (p2:Int) (hq:∀ p∈qre_Z8 p0 p1 p2,p):s_Z8 p0 p1 p2 = t_Z8 p0 p1 p2 := by
 obtain ⟨h1,h2,h3,h4,_⟩ := conj_of hq
 obtain ⟨g,rfl⟩ : ∃ g:Nat,p2 = g := ⟨p2.toNat,by omega⟩
 exact (l_Z8_0 p0 p1 g h1 h2 h3 (by omega)).2

abbrev con_Z8:Con := ⟨P_Z8,R_Z8,fun x => qre_Z8 x.1 x.2.1 x.2.2,fun x => t_Z8 x.1 x.2.1 x.2.2⟩
theorem ok_Z8:ConOk Try.prog 101 con_Z8 := okG k_Z8 e_Z8 hC_Z8 fun x hx => tf_of (w_Z8_eq x.1 x.2.1 x.2.2 _) (d_Z8 x.1 x.2.1 x.2.2 _ (pp_Z8 x.1 x.2.1 x.2.2 hx) (tt_Z8 x.1 x.2.1 x.2.2 hx))
def C_Z5:Cons := [(100,[],con_Zc),(66,[],con_Z2),(71,[],con_Z7),(101,[],con_Z8)]
theorem hC_Z5:ConsOk Try.prog C_Z5 := cC ok_Zc <| cC ok_Z2 <| cC ok_Z7 <| cC ok_Z8 <| ConsOk.nil
abbrev q0_Z5 (p0:gF) (p1:gF) := ((v_serr p0) :: ((v_serr p1) :: ((s_Z2 ((p0.length:Int) == (p1.length:Int)) (10:Int)) :: ([]:List Int))))
def w_Z5 (p0:gF) (p1:gF) (K:(Int×Int)→Prop):Prop := ((lenOk p0) ∧((lenOk p1) ∧((lenOk (q0_Z5 p0 p1)) ∧(((((v_first (q0_Z5 p0 p1)) != zz0)=true) →(K (zz0,(v_first (q0_Z5 p0 p1))))) ∧((((v_first (q0_Z5 p0 p1)) != zz0)=false) →((v_ser p0) ∧((v_ser p1) ∧((p0.length = p1.length) ∧(((zz0≤zz0) ∧(zz0≤5)) ∧(∃ n0,(loopP (fun (y1:(Int×(Int×(Int×Int)))) k2 => ((((decide (y1.1≤5))=true) →((decide (y1.1≤5))=(decide (y1.1≤5)))) ∧((((decide (y1.1≤5))=true) →((decide (y1.1≤5))=(decide (y1.1≤5)))) ∧((((decide (y1.1≤5))=true) →((decide (y1.1≤5))=(decide (y1.1≤5)))) ∧((((decide (y1.1≤5))=true) →((decide (y1.1≤5))=(decide (y1.1≤5)))) ∧(((decide (y1.1≤5))=(decide (y1.1≤5))) ∧((((cond (decide (y1.1≤5)) (decide ((wi (zz2 * y1.1)) < (p0.length:Int))) false)=true) →((v_ser p0) ∧((v_ser p1) ∧((p0.length = p1.length) ∧(((zz0≤y1.1) ∧(y1.1≤5)) ∧((((decide ((wi ((v_mis p0 p1 y1.1.toNat).1 * y1.2.2.1)) < (wi (y1.2.1 * (v_mis p0 p1 y1.1.toNat).2))))=true) →(k2 ((wi (y1.1 + zz1)),((v_mis p0 p1 y1.1.toNat).1,((v_mis p0 p1 y1.1.toNat).2,y1.1))))) ∧(((decide ((wi ((v_mis p0 p1 y1.1.toNat).1 * y1.2.2.1)) < (wi (y1.2.1 * (v_mis p0 p1 y1.1.toNat).2))))=false) →(k2 ((wi (y1.1 + zz1)),y1.2))))))))) ∧(((cond (decide (y1.1≤5)) (decide ((wi (zz2 * y1.1)) < (p0.length:Int))) false)=false) →(K (y1.2.2.2,zz0)))))))))) n0 (zz1,((v_mis p0 p1 (Int.toNat zz0)).1,((v_mis p0 p1 (Int.toNat zz0)).2,zz0))))))))))))))
theorem w_Z5_eq (p0:gF) (p1:gF) (K:(Int×Int)→Prop):tfn F_Z5 A_Z5 C_Z5 P_Z5 R_Z5 (p0,p1) K = w_Z5 p0 p1 K := by kernel_rfl
def st_Z5_0 (p0:gF) (p1:gF) (y1:(Int×(Int×(Int×Int)))):(Int×(Int×(Int×Int))) ⊕ (Int×Int) := (cond (cond (decide (y1.1≤5)) (decide ((IntKind.i64.wrap ((2:Int) * y1.1)) < (p0.length:Int))) false) (cond (decide ((IntKind.i64.wrap ((v_mis p0 p1 y1.1.toNat).1 * y1.2.2.1)) < (IntKind.i64.wrap (y1.2.1 * (v_mis p0 p1 y1.1.toNat).2)))) (Sum.inl ((IntKind.i64.wrap (y1.1 + 1)),((v_mis p0 p1 y1.1.toNat).1,((v_mis p0 p1 y1.1.toNat).2,y1.1)))) (Sum.inl ((IntKind.i64.wrap (y1.1 + 1)),y1.2))) (Sum.inr (y1.2.2.2,(0:Int))))
abbrev sp_Z5_0 (p0:gF) (p1:gF) (y1:(Int×(Int×(Int×Int)))):List Prop := [(((cond (decide (y1.1≤5)) (decide ((IntKind.i64.wrap ((2:Int) * y1.1)) < (p0.length:Int))) false)=true)→(v_ser p0)),(((cond (decide (y1.1≤5)) (decide ((IntKind.i64.wrap ((2:Int) * y1.1)) < (p0.length:Int))) false)=true)→(v_ser p1)),(((cond (decide (y1.1≤5)) (decide ((IntKind.i64.wrap ((2:Int) * y1.1)) < (p0.length:Int))) false)=true)→(p0.length = p1.length)),(((cond (decide (y1.1≤5)) (decide ((IntKind.i64.wrap ((2:Int) * y1.1)) < (p0.length:Int))) false)=true)→(((0:Int)≤y1.1)∧(y1.1≤5)))]
def s_Z5 (p0:gF) (p1:gF):(Int×Int) := (cond ((v_first ((v_serr p0) :: ((v_serr p1) :: ((s_Z2 ((p0.length:Int) == (p1.length:Int)) (10:Int)) :: ([]:List Int))))) != 0) ((0:Int),(v_first ((v_serr p0) :: ((v_serr p1) :: ((s_Z2 ((p0.length:Int) == (p1.length:Int)) (10:Int)) :: ([]:List Int)))))) (lpv (0,0) (st_Z5_0 p0 p1) ((1:Int),((v_mis p0 p1 (Int.toNat (0:Int))).1,((v_mis p0 p1 (Int.toNat (0:Int))).2,(0:Int))))))
abbrev pre_Z5 (p0:gF) (p1:gF):List Prop := [(lenOk p0),(lenOk p1),((((v_first ((v_serr p0) :: ((v_serr p1) :: ((s_Z2 ((p0.length:Int) == (p1.length:Int)) (10:Int)) :: ([]:List Int))))) != 0)=false)→(v_ser p0)),((((v_first ((v_serr p0) :: ((v_serr p1) :: ((s_Z2 ((p0.length:Int) == (p1.length:Int)) (10:Int)) :: ([]:List Int))))) != 0)=false)→(v_ser p1)),((((v_first ((v_serr p0) :: ((v_serr p1) :: ((s_Z2 ((p0.length:Int) == (p1.length:Int)) (10:Int)) :: ([]:List Int))))) != 0)=false)→(p0.length = p1.length)),((((v_first ((v_serr p0) :: ((v_serr p1) :: ((s_Z2 ((p0.length:Int) == (p1.length:Int)) (10:Int)) :: ([]:List Int))))) != 0)=false)→(OkL (st_Z5_0 p0 p1) (sp_Z5_0 p0 p1) ((1:Int),((v_mis p0 p1 (Int.toNat (0:Int))).1,((v_mis p0 p1 (Int.toNat (0:Int))).2,(0:Int))))))]
theorem d_Z5 (p0:gF) (p1:gF) (K:(Int×Int)→Prop) (hp:∀ p∈pre_Z5 p0 p1,p) (h:K (s_Z5 p0 p1)):w_Z5 p0 p1 K := by
 unfold w_Z5
 unfold s_Z5 at h
 obtain ⟨hp0,hp1,hp2,hp3,hp4,hp5,_⟩ := conj_of hp
 exact ⟨(hp0),(hp1),(lenOk_of 3 rfl (by decide)),(br' h (fun e0 h => h)
  (fun e0 h => ⟨(hp2 e0),(hp3 e0),(hp4 e0),(od rfl),(loop_gen (hp5 e0) h (fun y1 k1 hp h => by
 unfold st_Z5_0 at h; obtain ⟨hp0,hp1,hp2,hp3,_⟩ := conj_of hp
 exact ⟨rf,rf,rf,rf,rfl,(br' h (fun e2 h => ⟨(hp0 e2),(hp1 e2),(hp2 e2),(hp3 e2),(br' h (fun e3 h => h)
  (fun e3 h => h))⟩)
  (fun e2 h => h))⟩))⟩))⟩
/-- The best lag of those up to one; of all. -/
def v_better (o b:gF) (j r:Nat):Bool := decide ((v_mis o b j).1 * (v_mis o b r).2 < (v_mis o b r).1 * (v_mis o b j).2)
def v_best (o b:gF):Nat→Nat
 | 0 => 0
 | j + 1 => cond (v_better o b (j + 1) (v_best o b j)) (j + 1) (v_best o b j)
theorem v_best_le (o b:gF):∀ j,v_best o b j≤j
 | 0 => Nat.le_refl _
 | j + 1 => by
  have ih := v_best_le o b j
  unfold v_best
  cases v_better o b (j + 1) (v_best o b j)
  ·rw [cond_false]; omega
  ·rw [cond_true]; omega
def v_top (o:gF):Nat := min 5 ((o.length - 1) / 2)
def v_lag (o b:gF):Nat := v_best o b (v_top o)
def v_lerr (o b:gF):Int := v_first [v_serr o,v_serr b,cond ((o.length:Int) == (b.length:Int)) 0 10]
theorem tx_first3 {x y z:Int}:v_first [x,y,z]=cond (x != 0) x (cond (y != 0) y z) := by
 simp only [v_first]
 cases h:(x != 0)
 ·cases h2:(y != 0)
  ·cases h3:(z != 0)
   ·simp at h3; subst h3; rfl
   ·rfl
  ·rfl
 ·rfl
theorem v_lerr_ok {o b:List Int} (h:v_lerr o b = 0):v_ser o∧v_ser b∧o.length = b.length := by
 unfold v_lerr at h
 rw [tx_first3] at h
 rcases int0 (v_serr o) with ⟨z1,e1,_⟩ | ⟨z1,e1,_⟩ <;> rw [e1] at h
 ·rcases int0 (v_serr b) with ⟨z2,e2,_⟩ | ⟨z2,e2,_⟩ <;> rw [e2] at h
  ·refine ⟨v_serr_ok z1,v_serr_ok z2,?_⟩
   cases c:((o.length:Int) == (b.length:Int)) <;> rw [c] at h
   ·cases h
   ·have := eq_of_beq c; omega
  ·exact (z2 h).elim
 ·exact (z1 h).elim
def v_lof (o b:gF):Int×Int := cond (v_lerr o b != 0) (0,v_lerr o b) ((v_lag o b:Int),0)
theorem v_lof_cases (o b:gF):(v_serr o ≠ 0∧v_lof o b = (0,v_serr o)) ∨ v_serr o = 0∧((v_serr b ≠ 0∧v_lof o b = (0,v_serr b)) ∨ v_serr b = 0∧((o.length ≠ b.length∧v_lof o b = (0,10)) ∨ (o.length = b.length∧v_lof o b = ((v_lag o b:Int),0)))) := by
 unfold v_lof v_lerr
 rw [tx_first3]
 rcases int0 (v_serr o) with ⟨z1,e1,_⟩ | ⟨z1,e1,_⟩ <;> rw [e1]
 ·refine .inr ⟨z1,?_⟩
  rcases int0 (v_serr b) with ⟨z2,e2,_⟩ | ⟨z2,e2,_⟩ <;> rw [e2]
  ·refine .inr ⟨z2,?_⟩
   cases c:((o.length:Int) == (b.length:Int))
   ·exact .inl ⟨fun h => by simp [h] at c,rfl⟩
   ·have := eq_of_beq c
    exact .inr ⟨by omega,rfl⟩
  ·exact .inl ⟨z2,by simp only [cond_true,cond_false]; rw [e2]; rfl⟩
 ·exact .inl ⟨z1,by simp only [cond_true]; rw [e1]; rfl⟩
theorem l_Z5_0 (p0 p1:gF) (h1:v_ser p0) (h2:v_ser p1) (he:p0.length = p1.length):OkL (st_Z5_0 p0 p1) (sp_Z5_0 p0 p1) (1,(v_mis p0 p1 0).1,(v_mis p0 p1 0).2,0)∧lpv (0,0) (st_Z5_0 p0 p1) (1,(v_mis p0 p1 0).1,(v_mis p0 p1 0).2,0)=((v_lag p0 p1:Int),0) := by
 have hl := h1.len
 have hne := h1.ne
 have main := @for_is (Int×Int×Int) (Int×Int×Int×Int) (Int×Int) (0,0) (st_Z5_0 p0 p1) (sp_Z5_0 p0 p1) (fun i t => (i,t)) 1 (v_top p0 + 1) (fun j t => t = ((v_mis p0 p1 (v_best p0 p1 (j - 1))).1,(v_mis p0 p1 (v_best p0 p1 (j - 1))).2,(v_best p0 p1 (j - 1):Int))) (fun _ _ => ((v_lag p0 p1:Int),0)) (by omega) (by unfold v_top; omega) ?_ ?_ ((v_mis p0 p1 0).1,(v_mis p0 p1 0).2,0) rfl
 ·exact main
 ·rintro t h3
  have hw:IntKind.i64.wrap (2 * ((v_top p0 + 1:Nat):Int))=2 * ((v_top p0 + 1:Nat):Int) := wrap_id (by unfold v_top; omega) (by unfold v_top; omega)
  have hd:cond (decide (((v_top p0 + 1:Nat):Int)≤5)) (decide (2 * ((v_top p0 + 1:Nat):Int) < (p0.length:Int))) false = false := by
   cases c:decide (((v_top p0 + 1:Nat):Int)≤5)
   ·rfl
   ·have := of_decide_eq_true c
    rw [cond_true]; refine decide_eq_false ?_; unfold v_top at *; omega
  simp only [sp_Z5_0,st_Z5_0,fM,hw,hd,cond_false,h3]
  refine ⟨?_,rfl⟩
  and_intros
  all_goals first
   | (intro h; cases h; done)
   | (intro p hp; cases hp)
 ·rintro j t h0 hj h3
  have hj5:j≤5∧2 * j < p0.length := by unfold v_top at hj; omega
  have hw:IntKind.i64.wrap (2 * (j:Int))=2 * (j:Int) := wrap_id (by omega) (by omega)
  have hw1:IntKind.i64.wrap ((j:Int) + 1)=((j + 1:Nat):Int) := wrap_id (by omega) (by omega)
  have hd1:decide ((j:Int)≤5)=true := decide_eq_true (by omega)
  have hd2:decide (2 * (j:Int) < (p0.length:Int))=true := decide_eq_true (by omega)
  obtain ⟨a1,a2,a3,a4⟩ := v_mis_le (g := j) h1 h2 he
  obtain ⟨b1,b2,b3,b4⟩ := v_mis_le (g := v_best p0 p1 (j - 1)) h1 h2 he
  have hs:v_best p0 p1 (j + 1 - 1)=cond (v_better p0 p1 j (v_best p0 p1 (j - 1))) j (v_best p0 p1 (j - 1)) := by
   obtain ⟨i,rfl⟩ : ∃ i,j = i + 1 := ⟨j - 1,by omega⟩
   rfl
  have hb:v_better p0 p1 j (v_best p0 p1 (j - 1))=v_better p0 p1 j (v_best p0 p1 (j - 1)) := rfl
  conv at hb => { rhs; unfold v_better }
  simp only [sp_Z5_0,st_Z5_0,fM,hw,hw1,hd1,hd2,cond_true,h3,Int.toNat_natCast]
  rw [hs]
  generalize v_best p0 p1 (j - 1)=r at *
  have m1:0≤(v_mis p0 p1 j).1 * (v_mis p0 p1 r).2 := Int.mul_nonneg a1 b3
  have m2:(v_mis p0 p1 j).1 * (v_mis p0 p1 r).2≤8000000 * 40 := Int.mul_le_mul a2 b4 b3 (by decide)
  have m3:0≤(v_mis p0 p1 r).1 * (v_mis p0 p1 j).2 := Int.mul_nonneg b1 a3
  have m4:(v_mis p0 p1 r).1 * (v_mis p0 p1 j).2≤8000000 * 40 := Int.mul_le_mul b2 a4 a3 (by decide)
  rw [wrap_id (show -9223372036854775808≤(v_mis p0 p1 j).1 * (v_mis p0 p1 r).2 by omega) (by omega),wrap_id (show -9223372036854775808≤(v_mis p0 p1 r).1 * (v_mis p0 p1 j).2 by omega) (by omega),← hb]
  refine ⟨?_,?_⟩
  ·and_intros
   all_goals first
    | (intro p hp; cases hp; done)
    | (intros; first | exact h1 | exact h2 | exact he | omega)
  ·cases v_better p0 p1 j r
   ·exact .inl ⟨_,rfl,rfl,trivial⟩
   ·exact .inl ⟨_,rfl,rfl,trivial⟩
abbrev t_Z5 (p0:gF) (p1:gF):Int×Int := v_lof p0 p1
abbrev qre_Z5 (p0:gF) (p1:gF):List Prop := [lenOk p0,lenOk p1]
theorem pp_Z5 (p0:gF) (p1:gF) (hq:∀ p∈qre_Z5 p0 p1,p):∀ p∈pre_Z5 p0 p1,p := by
 obtain ⟨h1,h2,_⟩ := conj_of hq
 simp only [pre_Z5,fM,tx_unless,show ∀ x y:List Int,v_first [v_serr x,v_serr y,cond ((x.length:Int) == (y.length:Int)) 0 10]=v_lerr x y from fun _ _ => rfl]
 refine ⟨h1,h2,?_⟩
 rcases int0 (v_lerr p0 p1) with ⟨z,e,_⟩ | ⟨z,e,_⟩ <;> rw [e]
 ·obtain ⟨s1,s2,s3⟩ := v_lerr_ok z
  have := (l_Z5_0 p0 p1 s1 s2 s3).1
  and_intros
  all_goals first
   | (intro p hp; cases hp; done)
   | (intros; first | exact s1 | exact s2 | exact s3 | exact this | omega)
 ·and_intros
  all_goals first
   | (intro h; cases h; done)
   | (intro p hp; cases hp)
theorem tt_Z5 (p0:gF) (p1:gF) (_hq:∀ p∈qre_Z5 p0 p1,p):s_Z5 p0 p1 = t_Z5 p0 p1 := by
 unfold s_Z5 t_Z5 v_lof
 simp only [tx_unless,show ∀ x y:List Int,v_first [v_serr x,v_serr y,cond ((x.length:Int) == (y.length:Int)) 0 10]=v_lerr x y from fun _ _ => rfl]
 rcases int0 (v_lerr p0 p1) with ⟨z,e,_⟩ | ⟨z,e,_⟩ <;> rw [e]
 ·obtain ⟨s1,s2,s3⟩ := v_lerr_ok z
  exact (l_Z5_0 p0 p1 s1 s2 s3).2
 ·rfl

abbrev con_Z5:Con := ⟨P_Z5,R_Z5,fun x => qre_Z5 x.1 x.2,fun x => t_Z5 x.1 x.2⟩
theorem ok_Z5:ConOk Try.prog 45 con_Z5 := okG k_Z5 e_Z5 hC_Z5 fun x hx => tf_of (w_Z5_eq x.1 x.2 _) (d_Z5 x.1 x.2 _ (pp_Z5 x.1 x.2 hx) (tt_Z5 x.1 x.2 hx))
def C_Zk:Cons := []
theorem hC_Zk:ConsOk Try.prog C_Zk := ConsOk.nil
def w_Zk (p0:Int) (K:Int→Prop):Prop := (K (max p0 (IntKind.i64.wrap (zz0 - p0))))
theorem w_Zk_eq (p0:Int) (K:Int→Prop):tfn F_Zk A_Zk C_Zk P_Zk R_Zk p0 K = w_Zk p0 K := by kernel_rfl
def s_Zk (p0:Int):Int := (max p0 (IntKind.i64.wrap ((0:Int) - p0)))
abbrev pre_Zk (_p0:Int):List Prop := []
theorem d_Zk (p0:Int) (K:Int→Prop) (_hp:∀ p∈pre_Zk p0,p) (h:K (s_Zk p0)):w_Zk p0 K := by
 unfold w_Zk
 unfold s_Zk at h
 exact h
abbrev con_Zk:Con := ⟨P_Zk,R_Zk,fun x => pre_Zk x,fun x => s_Zk x⟩
theorem ok_Zk:ConOk Try.prog 95 con_Zk := okG k_Zk e_Zk hC_Zk fun x hx => tf_of (w_Zk_eq x _) (d_Zk x _ hx rfl)
def C_Za:Cons := [(95,[],con_Zk)]
theorem hC_Za:ConsOk Try.prog C_Za := cC ok_Zk <| ConsOk.nil
def w_Za (p0:gF) (p1:gF) (p2:Int) (K:(Int×Int)→Prop):Prop := (∃ n0,(loopP (fun (y1:(Int×(Int×Int))) k2 => ((((decide (y1.1≤(IntKind.i64.wrap ((IntKind.i64.wrap ((p0.length:Int) - 1)) - p2))))=true) →((zz0≤(IntKind.i64.wrap (y1.1 + p2))) ∧(((IntKind.i64.wrap (y1.1 + p2)) < (p0.length:Int)) ∧((zz0≤(IntKind.i64.wrap (y1.1 - p2))) ∧(((IntKind.i64.wrap (y1.1 - p2)) < (p1.length:Int)) ∧(k2 ((IntKind.i64.wrap (y1.1 + 1)),((IntKind.i64.wrap (y1.2.1 + 1)),(IntKind.i64.wrap (y1.2.2 + (s_Zk (IntKind.i64.wrap ((p0.getD (Int.toNat (IntKind.i64.wrap (y1.1 + p2))) zz0) - (p1.getD (Int.toNat (IntKind.i64.wrap (y1.1 - p2))) zz0)))))))))))))) ∧(((decide (y1.1≤(IntKind.i64.wrap ((IntKind.i64.wrap ((p0.length:Int) - 1)) - p2))))=false) →(K (y1.2.2,y1.2.1))))) n0 (p2,(zz0,zz0))))
theorem w_Za_eq (p0:gF) (p1:gF) (p2:Int) (K:(Int×Int)→Prop):tfn F_Za A_Za C_Za P_Za R_Za (p0,p1,p2) K = w_Za p0 p1 p2 K := by kernel_rfl
def st_Za_0 (p0:gF) (p1:gF) (p2:Int) (y0:(Int×(Int×Int))):(Int×(Int×Int)) ⊕ (Int×Int) := (cond (decide (y0.1≤(IntKind.i64.wrap ((IntKind.i64.wrap ((p0.length:Int) - 1)) - p2)))) (Sum.inl ((IntKind.i64.wrap (y0.1 + 1)),((IntKind.i64.wrap (y0.2.1 + 1)),(IntKind.i64.wrap (y0.2.2 + (s_Zk (IntKind.i64.wrap ((p0.getD (Int.toNat (IntKind.i64.wrap (y0.1 + p2))) (0:Int)) - (p1.getD (Int.toNat (IntKind.i64.wrap (y0.1 - p2))) (0:Int)))))))))) (Sum.inr (y0.2.2,y0.2.1)))
abbrev sp_Za_0 (p0:gF) (p1:gF) (p2:Int) (y0:(Int×(Int×Int))):List Prop := [(((decide (y0.1≤(IntKind.i64.wrap ((IntKind.i64.wrap ((p0.length:Int) - 1)) - p2))))=true)→((0:Int)≤(IntKind.i64.wrap (y0.1 + p2)))),(((decide (y0.1≤(IntKind.i64.wrap ((IntKind.i64.wrap ((p0.length:Int) - 1)) - p2))))=true)→((IntKind.i64.wrap (y0.1 + p2)) < (p0.length:Int))),(((decide (y0.1≤(IntKind.i64.wrap ((IntKind.i64.wrap ((p0.length:Int) - 1)) - p2))))=true)→((0:Int)≤(IntKind.i64.wrap (y0.1 - p2)))),(((decide (y0.1≤(IntKind.i64.wrap ((IntKind.i64.wrap ((p0.length:Int) - 1)) - p2))))=true)→((IntKind.i64.wrap (y0.1 - p2)) < (p1.length:Int)))]
def s_Za (p0:gF) (p1:gF) (p2:Int):(Int×Int) := (lpv (0,0) (st_Za_0 p0 p1 p2) (p2,(0,0)))
abbrev pre_Za (p0:gF) (p1:gF) (p2:Int):List Prop := [(OkL (st_Za_0 p0 p1 p2) (sp_Za_0 p0 p1 p2) (p2,(0,0)))]
theorem d_Za (p0:gF) (p1:gF) (p2:Int) (K:(Int×Int)→Prop) (hp:∀ p∈pre_Za p0 p1 p2,p) (h:K (s_Za p0 p1 p2)):w_Za p0 p1 p2 K := by
 unfold w_Za
 unfold s_Za at h
 obtain ⟨hp0,_⟩ := conj_of hp
 exact (loop_gen (hp0) h (fun y0 k0 hp h => by
 unfold st_Za_0 at h; obtain ⟨hp0,hp1,hp2,hp3,_⟩ := conj_of hp
 exact (br' h (fun e1 h => ⟨(hp0 e1),(hp1 e1),(hp2 e1),(hp3 e1),h⟩)
  (fun e1 h => h))))
theorem l_Za_0 (p0 p1:gF) (g:Nat) (h1:v_ser p0) (h2:v_ser p1) (he:p0.length = p1.length) (hg:g≤5):OkL (st_Za_0 p0 p1 g) (sp_Za_0 p0 p1 g) ((g:Int),0,0)∧lpv (0,0) (st_Za_0 p0 p1 g) ((g:Int),0,0)=v_mis p0 p1 g := by
 have hl := h1.len
 have hne := h1.ne
 have hx:IntKind.i64.wrap (IntKind.i64.wrap ((p0.length:Int) - 1) - g)=(p0.length:Int) - 1 - g := by rw [show IntKind.i64.wrap ((p0.length:Int) - 1)=(p0.length:Int) - 1 from wrap_id (by omega) (by omega)]; exact wrap_id (by omega) (by omega)
 have main := @for_is (Int×Int) (Int×Int×Int) (Int×Int) (0,0) (st_Za_0 p0 p1 g) (sp_Za_0 p0 p1 g) (fun i t => (i,t)) g (max g (p0.length - g)) (fun j t => t = (((j - g:Nat):Int),v_ms p0 p1 g (j - g))) (fun _ _ => v_mis p0 p1 g) (by omega) (by omega) ?_ ?_ (0,0) (by rw [Nat.sub_self]; rfl)
 ·exact main
 ·rintro t h1
  have hd:decide (((max g (p0.length - g):Nat):Int)≤(p0.length:Int) - 1 - g)=false := decide_eq_false (by omega)
  have e1:max g (p0.length - g) - g = p0.length - 2 * g := by omega
  rw [e1] at h1
  simp only [sp_Za_0,st_Za_0,fM,hx,hd,cond_false,h1]
  refine ⟨?_,rfl⟩
  and_intros
  all_goals first
   | (intro h; cases h; done)
   | (intro p hp; cases hp)
 ·rintro j t h0 hj h3
  have hw1:IntKind.i64.wrap ((j:Int) + 1)=((j + 1:Nat):Int) := wrap_id (by omega) (by omega)
  have hw2:IntKind.i64.wrap ((j:Int) + g)=((j + g:Nat):Int) := wrap_id (by omega) (by omega)
  have hw3:IntKind.i64.wrap ((j:Int) - g)=((j - g:Nat):Int) := by rw [wrap_id (by omega) (by omega)]; omega
  have hw4:IntKind.i64.wrap (((j - g:Nat):Int) + 1)=((j + 1 - g:Nat):Int) := by rw [wrap_id (by omega) (by omega)]; omega
  have hd:decide ((j:Int)≤(p0.length:Int) - 1 - g)=true := decide_eq_true (by omega)
  have ga := v_ser_get h1 (show j + g < p0.length by omega)
  have gb := v_ser_get h2 (show j - g < p1.length by omega)
  have hm := v_ms_le h1 h2 he (g := g) (j - g) (by omega)
  have hs:v_ms p0 p1 g (j + 1 - g)=v_ms p0 p1 g (j - g) + max (p0.getD (j + g) 0 - p1.getD (j - g) 0) (0 - (p0.getD (j + g) 0 - p1.getD (j - g) 0)) := by
   rw [show j + 1 - g = (j - g) + 1 by omega,show j + g = (j - g) + 2 * g by omega]; rfl
  simp only [sp_Za_0,st_Za_0,fM,hx,hd,cond_true,h3,hw1,hw2,hw3,hw4,Int.toNat_natCast,s_Zk]
  generalize p0.getD (j + g) 0 = a at *
  generalize p1.getD (j - g) 0 = b at *
  have w1:IntKind.i64.wrap (a - b)=a - b := wrap_id (by omega) (by omega)
  have w2:IntKind.i64.wrap (0 - (a - b))=0 - (a - b) := wrap_id (by omega) (by omega)
  have w3:IntKind.i64.wrap (v_ms p0 p1 g (j - g) + max (a - b) (0 - (a - b)))=v_ms p0 p1 g (j - g) + max (a - b) (0 - (a - b)) := wrap_id (by omega) (by omega)
  simp only [w1,w2,w3]
  refine ⟨?_,.inl ⟨(((j + 1 - g:Nat):Int),v_ms p0 p1 g (j + 1 - g)),by rw [hs],rfl,trivial⟩⟩
  and_intros
  all_goals first
   | (intro p hp; cases hp; done)
   | (intros; omega)
abbrev t_Za (p0:gF) (p1:gF) (p2:Int):Int×Int := v_mis p0 p1 p2.toNat
abbrev qre_Za (p0:gF) (p1:gF) (p2:Int):List Prop := [v_ser p0,v_ser p1,p0.length = p1.length,0≤p2∧p2≤5]
theorem pp_Za (p0:gF) (p1:gF) (p2:Int) (hq:∀ p∈qre_Za p0 p1 p2,p):∀ p∈pre_Za p0 p1 p2,p := by
 obtain ⟨h1,h2,h3,h4,_⟩ := conj_of hq
 obtain ⟨g,rfl⟩ : ∃ g:Nat,p2 = g := ⟨p2.toNat,by omega⟩
 simp only [pre_Za,fM]
 exact ⟨(l_Za_0 p0 p1 g h1 h2 h3 (by omega)).1,by simp⟩
theorem tt_Za (p0:gF) (p1:gF) (p2:Int) (hq:∀ p∈qre_Za p0 p1 p2,p):s_Za p0 p1 p2 = t_Za p0 p1 p2 := by
 obtain ⟨h1,h2,h3,h4,_⟩ := conj_of hq
 obtain ⟨g,rfl⟩ : ∃ g:Nat,p2 = g := ⟨p2.toNat,by omega⟩
 exact (l_Za_0 p0 p1 g h1 h2 h3 (by omega)).2

abbrev con_Za:Con := ⟨P_Za,R_Za,fun x => qre_Za x.1 x.2.1 x.2.2,fun x => t_Za x.1 x.2.1 x.2.2⟩
theorem ok_Za:ConOk Try.prog 52 con_Za := okG k_Za e_Za hC_Za fun x hx => tf_of (w_Za_eq x.1 x.2.1 x.2.2 _) (d_Za x.1 x.2.1 x.2.2 _ (pp_Za x.1 x.2.1 x.2.2 hx) (tt_Za x.1 x.2.1 x.2.2 hx))
def C_Zn:Cons := []
theorem hC_Zn:ConsOk Try.prog C_Zn := ConsOk.nil
def w_Zn (p0:(List (Int×(Int×(Int×(Int×Int)))))) (K:(List (Int×(Int×(Int×(Int×Int)))))→Prop):Prop := (((p0.length = 0) →(K ([]:List (Int×(Int×(Int×(Int×Int))))))) ∧(((((List.length ([]:List (Int×(Int×(Int×(Int×Int)))))) + p0.length) * 40)≤140737488355328) ∧(K (([]:List (Int×(Int×(Int×(Int×Int))))) ++ p0))))
theorem w_Zn_eq (p0:(List (Int×(Int×(Int×(Int×Int)))))) (K:(List (Int×(Int×(Int×(Int×Int)))))→Prop):tfnO F_Zn A_Zn C_Zn P_Zn E_Zn p0 K = w_Zn p0 K := by kernel_rfl
def s_Zn (p0:List (Int×Int×Int×Int×Int)):List (Int×Int×Int×Int×Int) := p0
abbrev pre_Zn (p0:List (Int×Int×Int×Int×Int)):List Prop := [p0.length≤1000000]
theorem d_Zn (p0:List (Int×Int×Int×Int×Int)) (K:List (Int×Int×Int×Int×Int)→Prop) (hp:∀ p∈pre_Zn p0,p) (h:K (s_Zn p0)):w_Zn p0 K := by
 have h1 := (conj_of hp).1
 refine ⟨fun e => ?_,by simp only [List.length_nil]; omega,h⟩
 have:p0 = [] := List.eq_nil_of_length_eq_zero e
 subst this; exact h

abbrev con_Zn:Con := ⟨P_Zn,[.one (.sl E_Zn)],fun x => pre_Zn x,fun x => s_Zn x⟩
theorem ok_Zn:ConOOk Try.prog 102 con_Zn := conO_tf (e := E_Zn) (ps := P_Zn) k_Zn e_Zn hC_Zn (fun x hx => tfo_of (w_Zn_eq x (fun z => z = s_Zn x)) (d_Zn x (fun z => z = s_Zn x) hx rfl))
def C_Z6:Cons := [(72,[],con_Zh),(86,[],con_Z4),(66,[],con_Z2),(71,[],con_Z7),(102,ownMark,con_Zn)]
theorem hC_Z6:ConsOk Try.prog C_Z6 := cC ok_Zh <| cC ok_Z4 <| cC ok_Z2 <| cC ok_Z7 <| ConsOk.consO ok_Zn <| ConsOk.nil
abbrev q0_Z6 (p0:(List (Int×(Int×(Int×(Int×Int)))))) (p1:Int) := ((v_cs p0).2 :: ((s_Z2 (s_Z4 p1 zz0 (5:Int)) zz2) :: ((s_Z2 (decide ((p0.length:Int) > p1)) (12:Int)) :: ([]:List Int))))
def w_Z6 (p0:(List (Int×(Int×(Int×(Int×Int)))))) (p1:Int) (K:((List (Int×(Int×(Int×(Int×Int)))))×Int)→Prop):Prop := ((lenOk (q0_Z6 p0 p1)) ∧(((((v_first (q0_Z6 p0 p1)) != zz0)=true) →(K (([]:List (Int×(Int×(Int×(Int×Int))))),(v_first (q0_Z6 p0 p1))))) ∧((((v_first (q0_Z6 p0 p1)) != zz0)=false) →((zz0≤(wi ((p0.length:Int) - p1))) ∧(((wi ((p0.length:Int) - p1))≤(p0.length:Int)) ∧(((List.length (List.take (Int.toNat (wi ((p0.length:Int) - p1))) p0))≤1000000) ∧(∃ n0,(loopP (fun (y1:(Int×(List (Int×(Int×(Int×(Int×Int))))))) k2 => ((((decide (y1.1 < (((List.length (List.take (Int.toNat (wi ((p0.length:Int) - p1))) p0)):Nat):Int)))=true) →((zz0≤(wi (y1.1 + p1))) ∧(((wi (y1.1 + p1)) < (p0.length:Int)) ∧((zz0≤y1.1) ∧((y1.1 < (y1.2.length:Int)) ∧(k2 ((wi (y1.1 + zz1)),(List.set y1.2 y1.1.toNat ((y1.2.getD y1.1.toNat (zz0,(zz0,(zz0,(zz0,zz0))))).1,((y1.2.getD y1.1.toNat (zz0,(zz0,(zz0,(zz0,zz0))))).2.1,((y1.2.getD y1.1.toNat (zz0,(zz0,(zz0,(zz0,zz0))))).2.2.1,((y1.2.getD y1.1.toNat (zz0,(zz0,(zz0,(zz0,zz0))))).2.2.2.1,(p0.getD (Int.toNat (wi (y1.1 + p1))) (zz0,(zz0,(zz0,(zz0,zz0))))).2.2.2.2)))))))))))) ∧(((decide (y1.1 < (((List.length (List.take (Int.toNat (wi ((p0.length:Int) - p1))) p0)):Nat):Int)))=false) →(K (y1.2,zz0))))) n0 (zz0,(List.take (Int.toNat (wi ((p0.length:Int) - p1))) p0))))))))))
theorem w_Z6_eq (p0:(List (Int×(Int×(Int×(Int×Int)))))) (p1:Int) (K:((List (Int×(Int×(Int×(Int×Int)))))×Int)→Prop):tfn F_Z6 A_Z6 C_Z6 P_Z6 R_Z6 (p0,p1) K = w_Z6 p0 p1 K := by kernel_rfl
def st_Z6_0 (p0:(List (Int×(Int×(Int×(Int×Int)))))) (p1:Int) (y1:(Int×(List (Int×(Int×(Int×(Int×Int))))))):(Int×(List (Int×(Int×(Int×(Int×Int)))))) ⊕ ((List (Int×(Int×(Int×(Int×Int)))))×Int) := (cond (decide (y1.1 < (((List.length (List.take (Int.toNat (IntKind.i64.wrap ((p0.length:Int) - p1))) p0)):Nat):Int))) (Sum.inl ((IntKind.i64.wrap (y1.1 + 1)),(List.set y1.2 y1.1.toNat ((y1.2.getD y1.1.toNat ((0:Int),((0:Int),((0:Int),(0,0))))).1,((y1.2.getD y1.1.toNat ((0:Int),((0:Int),((0:Int),(0,0))))).2.1,((y1.2.getD y1.1.toNat ((0:Int),((0:Int),((0:Int),(0,0))))).2.2.1,((y1.2.getD y1.1.toNat ((0:Int),((0:Int),((0:Int),(0,0))))).2.2.2.1,(p0.getD (Int.toNat (IntKind.i64.wrap (y1.1 + p1))) ((0:Int),((0:Int),((0:Int),(0,0))))).2.2.2.2))))))) (Sum.inr (y1.2,(0:Int))))
abbrev sp_Z6_0 (p0:(List (Int×(Int×(Int×(Int×Int)))))) (p1:Int) (y1:(Int×(List (Int×(Int×(Int×(Int×Int))))))):List Prop := [(((decide (y1.1 < (((List.length (List.take (Int.toNat (IntKind.i64.wrap ((p0.length:Int) - p1))) p0)):Nat):Int)))=true)→((0:Int)≤(IntKind.i64.wrap (y1.1 + p1)))),(((decide (y1.1 < (((List.length (List.take (Int.toNat (IntKind.i64.wrap ((p0.length:Int) - p1))) p0)):Nat):Int)))=true)→((IntKind.i64.wrap (y1.1 + p1)) < (p0.length:Int))),(((decide (y1.1 < (((List.length (List.take (Int.toNat (IntKind.i64.wrap ((p0.length:Int) - p1))) p0)):Nat):Int)))=true)→((0:Int)≤y1.1)),(((decide (y1.1 < (((List.length (List.take (Int.toNat (IntKind.i64.wrap ((p0.length:Int) - p1))) p0)):Nat):Int)))=true)→(y1.1 < (y1.2.length:Int)))]
def s_Z6 (p0:(List (Int×(Int×(Int×(Int×Int)))))) (p1:Int):((List (Int×(Int×(Int×(Int×Int)))))×Int) := (cond ((v_first ((v_cs p0).2 :: ((s_Z2 (s_Z4 p1 (0:Int) (5:Int)) (2:Int)) :: ((s_Z2 (decide ((p0.length:Int) > p1)) (12:Int)) :: ([]:List Int))))) != 0) (([]:List (Int×(Int×(Int×(Int×Int))))),(v_first ((v_cs p0).2 :: ((s_Z2 (s_Z4 p1 (0:Int) (5:Int)) (2:Int)) :: ((s_Z2 (decide ((p0.length:Int) > p1)) (12:Int)) :: ([]:List Int)))))) (lpv ([],(0:Int)) (st_Z6_0 p0 p1) ((0:Int),(List.take (Int.toNat (IntKind.i64.wrap ((p0.length:Int) - p1))) p0))))
abbrev pre_Z6 (p0:(List (Int×(Int×(Int×(Int×Int)))))) (p1:Int):List Prop := [((((v_first ((v_cs p0).2 :: ((s_Z2 (s_Z4 p1 (0:Int) (5:Int)) (2:Int)) :: ((s_Z2 (decide ((p0.length:Int) > p1)) (12:Int)) :: ([]:List Int))))) != 0)=false)→((0:Int)≤(IntKind.i64.wrap ((p0.length:Int) - p1)))),((((v_first ((v_cs p0).2 :: ((s_Z2 (s_Z4 p1 (0:Int) (5:Int)) (2:Int)) :: ((s_Z2 (decide ((p0.length:Int) > p1)) (12:Int)) :: ([]:List Int))))) != 0)=false)→((IntKind.i64.wrap ((p0.length:Int) - p1))≤(p0.length:Int))),((((v_first ((v_cs p0).2 :: ((s_Z2 (s_Z4 p1 (0:Int) (5:Int)) (2:Int)) :: ((s_Z2 (decide ((p0.length:Int) > p1)) (12:Int)) :: ([]:List Int))))) != 0)=false)→((List.length (List.take (Int.toNat (IntKind.i64.wrap ((p0.length:Int) - p1))) p0))≤1000000)),((((v_first ((v_cs p0).2 :: ((s_Z2 (s_Z4 p1 (0:Int) (5:Int)) (2:Int)) :: ((s_Z2 (decide ((p0.length:Int) > p1)) (12:Int)) :: ([]:List Int))))) != 0)=false)→(OkL (st_Z6_0 p0 p1) (sp_Z6_0 p0 p1) ((0:Int),(List.take (Int.toNat (IntKind.i64.wrap ((p0.length:Int) - p1))) p0))))]
theorem d_Z6 (p0:(List (Int×(Int×(Int×(Int×Int)))))) (p1:Int) (K:((List (Int×(Int×(Int×(Int×Int)))))×Int)→Prop) (hp:∀ p∈pre_Z6 p0 p1,p) (h:K (s_Z6 p0 p1)):w_Z6 p0 p1 K := by
 unfold w_Z6
 unfold s_Z6 at h
 obtain ⟨hp0,hp1,hp2,hp3,_⟩ := conj_of hp
 exact ⟨(lenOk_of 3 rfl (by decide)),(br' h (fun e0 h => h)
  (fun e0 h => ⟨(hp0 e0),(hp1 e0),(hp2 e0),(loop_gen (hp3 e0) h (fun y1 k1 hp h => by
 unfold st_Z6_0 at h; obtain ⟨hp0,hp1,hp2,hp3,_⟩ := conj_of hp
 exact (br' h (fun e2 h => ⟨(hp0 e2),(hp1 e2),(hp2 e2),(hp3 e2),h⟩)
  (fun e2 h => h))))⟩))⟩
/-- A sample with the reading of one later on; samples without a lag; what is wrong with them. -/
def v_lgk (l:List (Int×Int×Int×Int×Int)) (g k:Nat):Int×Int×Int×Int×Int := ((l.getD k (0,0,0,0,0)).1,(l.getD k (0,0,0,0,0)).2.1,(l.getD k (0,0,0,0,0)).2.2.1,(l.getD k (0,0,0,0,0)).2.2.2.1,(l.getD (k + g) (0,0,0,0,0)).2.2.2.2)
def v_lgd (l:List (Int×Int×Int×Int×Int)) (g:Nat):List (Int×Int×Int×Int×Int) := (List.range' 0 (l.length - g)).map (v_lgk l g)
def v_gerr (l:List (Int×Int×Int×Int×Int)) (g:Int):Int := v_first [(v_cs l).2,cond (s_Z3 g 0 5) 0 2,cond (decide ((l.length:Int) > g)) 0 12]
theorem v_lgd_len (l:List (Int×Int×Int×Int×Int)) (g:Nat):(v_lgd l g).length = l.length - g := by unfold v_lgd; simp
theorem v_lgd_get {l:List (Int×Int×Int×Int×Int)} {g k:Nat} (hk:k < l.length - g):(v_lgd l g).getD k (0,0,0,0,0)=v_lgk l g k := by
 unfold v_lgd
 rw [List.getD_eq_getElem?_getD,List.getElem?_map,List.getElem?_range' hk]; simp
theorem v_gerr_ok {l:List (Int×Int×Int×Int×Int)} {g:Int} (h:v_gerr l g = 0):(v_cs l).2 = 0∧(0≤g∧g≤5)∧g < l.length := by
 unfold v_gerr at h
 rw [tx_first3] at h
 rcases int0 (v_cs l).2 with ⟨z1,e1,_⟩ | ⟨z1,e1,_⟩ <;> rw [e1] at h
 ·cases c:s_Z3 g 0 5 <;> rw [c] at h
  ·cases h
  ·cases c2:decide ((l.length:Int) > g) <;> rw [c2] at h
   ·cases h
   ·exact ⟨z1,tx_within.1 c,of_decide_eq_true c2⟩
 ·exact (z1 h).elim
def v_lgx (l:List (Int×Int×Int×Int×Int)) (g:Int):(List (Int×Int×Int×Int×Int))×Int := cond (v_gerr l g != 0) ([],v_gerr l g) (v_lgd l g.toNat,0)
theorem v_lgx_cases (l:List (Int×Int×Int×Int×Int)) (g:Int):((v_cs l).2 ≠ 0∧v_lgx l g = ([],(v_cs l).2)) ∨ (v_cs l).2 = 0∧((s_Z3 g 0 5 = false∧v_lgx l g = ([],2)) ∨ s_Z3 g 0 5 = true∧(((l.length:Int)≤g∧v_lgx l g = ([],12)) ∨ (¬ (l.length:Int)≤g∧v_lgx l g = (v_lgd l g.toNat,0)))) := by
 unfold v_lgx v_gerr
 rw [tx_first3]
 rcases int0 (v_cs l).2 with ⟨z1,e1,_⟩ | ⟨z1,e1,_⟩ <;> rw [e1]
 ·refine .inr ⟨z1,?_⟩
  cases c:s_Z3 g 0 5
  ·exact .inl ⟨rfl,rfl⟩
  ·refine .inr ⟨rfl,?_⟩
   cases c2:decide ((l.length:Int) > g)
   ·have := of_decide_eq_false c2
    exact .inl ⟨by omega,rfl⟩
   ·have := of_decide_eq_true c2
    exact .inr ⟨by omega,rfl⟩
 ·exact .inl ⟨z1,by simp only [cond_true]; rw [e1]; rfl⟩
theorem l_Z6_0 (p0:List (Int×Int×Int×Int×Int)) (g:Nat) (hl:p0.length≤20) (hg:g≤5) (hg' : g < p0.length):OkL (st_Z6_0 p0 g) (sp_Z6_0 p0 g) (0,p0.take (p0.length - g))∧lpv ([],0) (st_Z6_0 p0 g) (0,p0.take (p0.length - g))=(v_lgd p0 g,0) := by
 have hx:IntKind.i64.wrap ((p0.length:Int) - g)=((p0.length - g:Nat):Int) := by rw [wrap_id (by omega) (by omega)]; omega
 have ht:(p0.take (p0.length - g)).length = p0.length - g := by rw [List.length_take]; omega
 have main := @for_is (List (Int×Int×Int×Int×Int)) (Int×List (Int×Int×Int×Int×Int)) ((List (Int×Int×Int×Int×Int))×Int) ([],0) (st_Z6_0 p0 g) (sp_Z6_0 p0 g) (fun i t => (i,t)) 0 (p0.length - g) (fun j t => t.length = p0.length - g∧(∀ k,k < j→k < p0.length - g→t.getD k (0,0,0,0,0)=v_lgk p0 g k)∧∀ k,j≤k→k < p0.length - g→t.getD k (0,0,0,0,0)=p0.getD k (0,0,0,0,0)) (fun _ _ => (v_lgd p0 g,0)) (Nat.zero_le _) (by omega) ?_ ?_ (p0.take (p0.length - g)) ⟨ht,fun k hk _ => by omega,fun k _ hk => by
  rw [List.getD_eq_getElem?_getD,List.getElem?_take_of_lt hk,List.getD_eq_getElem?_getD]⟩
 ·exact main
 ·rintro t ⟨h1,h2,h3⟩
  have e2:t = v_lgd p0 g := gd_ext (0,0,0,0,0) (by rw [v_lgd_len,h1]) fun k hk => by
   rw [v_lgd_get (by omega),h2 k (by omega) (by omega)]
  simp only [sp_Z6_0,st_Z6_0,fM,hx,Int.toNat_natCast,ht,decide_eq_false (Int.lt_irrefl ((p0.length - g:Nat):Int)),cond_false]
  refine ⟨?_,by rw [e2]⟩
  and_intros
  all_goals first
   | (intro h; cases h; done)
   | (intro p hp; cases hp)
 ·rintro j t h0 hj ⟨h1,h2,h3⟩
  have hw1:IntKind.i64.wrap ((j:Int) + 1)=((j + 1:Nat):Int) := wrap_id (by omega) (by omega)
  have hw2:IntKind.i64.wrap ((j:Int) + g)=((j + g:Nat):Int) := wrap_id (by omega) (by omega)
  have hd:decide ((j:Int) < ((p0.length - g:Nat):Int))=true := decide_eq_true (by omega)
  simp only [sp_Z6_0,st_Z6_0,fM,hx,Int.toNat_natCast,ht,hd,cond_true,hw1,hw2,h3 j (Nat.le_refl _) hj]
  refine ⟨?_,.inl ⟨t.set j (v_lgk p0 g j),rfl,⟨by rw [List.length_set]; exact h1,fun k hk hk2 => ?_,fun k hk hk2 => ?_⟩,trivial⟩⟩
  ·and_intros
   all_goals first
    | (intro p hp; cases hp; done)
    | (intros; omega)
  ·rw [gd_set (by omega)]
   split
   ·rename_i e; subst e; rfl
   ·exact h2 k (by omega) hk2
  ·rw [gd_set (by omega),if_neg (by omega)]; exact h3 k (by omega) hk2
abbrev t_Z6 (p0:List (Int×Int×Int×Int×Int)) (p1:Int):(List (Int×Int×Int×Int×Int))×Int := v_lgx p0 p1
abbrev qre_Z6 (_p0:List (Int×Int×Int×Int×Int)) (_p1:Int):List Prop := []
theorem pp_Z6 (p0:List (Int×Int×Int×Int×Int)) (p1:Int) (hq:∀ p∈qre_Z6 p0 p1,p):∀ p∈pre_Z6 p0 p1,p := by
 simp only [pre_Z6,fM]
 simp only [tx_unless,tx_withinG,show ∀ (x:List (Int×Int×Int×Int×Int)) (y:Int),v_first [(v_cs x).2,cond (s_Z3 y 0 5) 0 2,cond (decide ((x.length:Int) > y)) 0 12]=v_gerr x y from fun _ _ => rfl]
 rcases int0 (v_gerr p0 p1) with ⟨z,e,_⟩ | ⟨z,e,_⟩ <;> rw [e]
 ·obtain ⟨s1,s2,s3⟩ := v_gerr_ok z
  obtain ⟨g,rfl⟩ : ∃ g:Nat,p1 = g := ⟨p1.toNat,by omega⟩
  have hl := (v_cs_iff.1 s1).len
  have hx:IntKind.i64.wrap ((p0.length:Int) - g)=((p0.length - g:Nat):Int) := by rw [wrap_id (by omega) (by omega)]; omega
  rw [hx,Int.toNat_natCast]
  have := (l_Z6_0 p0 g hl (by omega) (by omega)).1
  and_intros
  all_goals first
   | (intro p hp; cases hp; done)
   | (intros; first | exact this | (rw [List.length_take]; omega) | omega)
 ·and_intros
  all_goals first
   | (intro h; cases h; done)
   | (intro p hp; cases hp)
theorem tt_Z6 (p0:List (Int×Int×Int×Int×Int)) (p1:Int) (hq:∀ p∈qre_Z6 p0 p1,p):s_Z6 p0 p1 = t_Z6 p0 p1 := by
 unfold s_Z6 t_Z6 v_lgx
 simp only [tx_unless,tx_withinG,show ∀ (x:List (Int×Int×Int×Int×Int)) (y:Int),v_first [(v_cs x).2,cond (s_Z3 y 0 5) 0 2,cond (decide ((x.length:Int) > y)) 0 12]=v_gerr x y from fun _ _ => rfl]
 rcases int0 (v_gerr p0 p1) with ⟨z,e,_⟩ | ⟨z,e,_⟩ <;> rw [e]
 ·obtain ⟨s1,s2,s3⟩ := v_gerr_ok z
  obtain ⟨g,rfl⟩ : ∃ g:Nat,p1 = g := ⟨p1.toNat,by omega⟩
  have hl := (v_cs_iff.1 s1).len
  have hx:IntKind.i64.wrap ((p0.length:Int) - g)=((p0.length - g:Nat):Int) := by rw [wrap_id (by omega) (by omega)]; omega
  rw [hx,Int.toNat_natCast]
  exact (l_Z6_0 p0 g hl (by omega) (by omega)).2
 ·rfl

abbrev con_Z6:Con := ⟨P_Z6,R_Z6,fun x => qre_Z6 x.1 x.2,fun x => t_Z6 x.1 x.2⟩
theorem ok_Z6:ConOk Try.prog 47 con_Z6 := okG k_Z6 e_Z6 hC_Z6 fun x hx => tf_of (w_Z6_eq x.1 x.2 _) (d_Z6 x.1 x.2 _ (pp_Z6 x.1 x.2 hx) (tt_Z6 x.1 x.2 hx))
def C_Z1:Cons := [(13,[],con_Zo),(48,[],con_Z9),(17,[],con_Z3),(46,ownMark,con_Zd),(45,[],con_Z5),(52,[],con_Za),(47,[],con_Z6)]
theorem hC_Z1:ConsOk Try.prog C_Z1 := cC ok_Zo <| cC ok_Z9 <| cC ok_Z3 <| ConsOk.consO ok_Zd <| cC ok_Z5 <| cC ok_Za <| cC ok_Z6 <| ConsOk.nil
abbrev q3_Z1 (p0:gF) := (cond (decide ((p0.length:Int) < 6)) true (decide ((p0.length:Int) > 30)))
abbrev q0_Z1 (p0:gF) := (cond (q3_Z1 p0) true ((v_serr p0) != zz0))
abbrev q1_Z1 (p0:gF) (p1:Int) := (cond (q0_Z1 p0) true (!(s_Z3 p1 zz0 (5:Int))))
abbrev q2_Z1 (p0:gF) (p1:Int) (y4:(Int×(List (Int×(Int×(Int×(Int×Int))))))) (y7:Int) := (!(((List.getD (v_lgx y4.2 p1).1 y7.toNat (zz0,(zz0,(zz0,(zz0,zz0))))).1 == y7) && (((List.getD (v_lgx y4.2 p1).1 y7.toNat (zz0,(zz0,(zz0,(zz0,zz0))))).2.1 == zz0) && (((List.getD (v_lgx y4.2 p1).1 y7.toNat (zz0,(zz0,(zz0,(zz0,zz0))))).2.2.1 == zz0) && (((List.getD (v_lgx y4.2 p1).1 y7.toNat (zz0,(zz0,(zz0,(zz0,zz0))))).2.2.2.1 == zz0) && (((List.getD (v_lgx y4.2 p1).1 y7.toNat (zz0,(zz0,(zz0,(zz0,zz0))))).2.2.2.2 == (p0.getD y7.toNat zz0)) && true))))))
def w_Z1 (p0:gF) (p1:Int) (K:Bool→Prop):Prop := ((((!(s_Zo))=true) →(K false)) ∧(((!(s_Zo))=false) →((((decide ((p0.length:Int) < 6))=false) →((decide ((p0.length:Int) < 6))=(decide ((p0.length:Int) < 6)))) ∧((((decide ((p0.length:Int) < 6))=false) →((decide ((p0.length:Int) < 6))=(decide ((p0.length:Int) < 6)))) ∧(((decide ((p0.length:Int) < 6))=(decide ((p0.length:Int) < 6))) ∧((((q3_Z1 p0)=false) →((q3_Z1 p0)=(q3_Z1 p0))) ∧((((q3_Z1 p0)=false) →((q3_Z1 p0)=(q3_Z1 p0))) ∧(((q3_Z1 p0)=(q3_Z1 p0)) ∧((((q0_Z1 p0)=false) →((q0_Z1 p0)=(q0_Z1 p0))) ∧((((q0_Z1 p0)=false) →((q0_Z1 p0)=(q0_Z1 p0))) ∧(((q0_Z1 p0)=(q0_Z1 p0)) ∧((((q1_Z1 p0 p1)=false) →((q1_Z1 p0 p1)=(q1_Z1 p0 p1))) ∧((((q1_Z1 p0 p1)=false) →((q1_Z1 p0 p1)=(q1_Z1 p0 p1))) ∧((((q1_Z1 p0 p1)=false) →((q1_Z1 p0 p1)=(q1_Z1 p0 p1))) ∧((((q1_Z1 p0 p1)=false) →((q1_Z1 p0 p1)=(q1_Z1 p0 p1))) ∧(((q1_Z1 p0 p1)=(q1_Z1 p0 p1)) ∧((((cond (q1_Z1 p0 p1) true (decide ((wi (zz2 * p1)) ≥ (p0.length:Int))))=true) →(K true)) ∧(((cond (q1_Z1 p0 p1) true (decide ((wi (zz2 * p1)) ≥ (p0.length:Int))))=false) →((zz0≤(p0.length:Int)) ∧((((8:Int) * (p0.length:Int))≤281474976710656) ∧(((p0.length:Int)≤9223372036854775807) ∧((zz0≤(p0.length:Int)) ∧((((8:Int) * (p0.length:Int))≤281474976710656) ∧(((p0.length:Int)≤9223372036854775807) ∧(∃ n0,(loopP (fun (y1:(Int×((List Int)×(List Int)))) k2 => ((((decide (y1.1 < (p0.length:Int)))=true) →((zz0≤(max zz0 (wi (y1.1 - p1)))) ∧(((max zz0 (wi (y1.1 - p1))) < (p0.length:Int)) ∧((zz0≤(min (wi ((p0.length:Int) - zz1)) (wi (y1.1 + p1)))) ∧(((min (wi ((p0.length:Int) - zz1)) (wi (y1.1 + p1))) < (p0.length:Int)) ∧((zz0≤y1.1) ∧((y1.1 < (y1.2.1.length:Int)) ∧((zz0≤y1.1) ∧((y1.1 < (y1.2.2.length:Int)) ∧(k2 ((wi (y1.1 + zz1)),((List.set y1.2.1 y1.1.toNat (p0.getD (Int.toNat (max zz0 (wi (y1.1 - p1)))) zz0)),(List.set y1.2.2 y1.1.toNat (p0.getD (Int.toNat (min (wi ((p0.length:Int) - zz1)) (wi (y1.1 + p1)))) zz0)))))))))))))) ∧(((decide (y1.1 < (p0.length:Int)))=false) →((y1.2.1.length≤1000000) ∧((y1.2.2.length≤1000000) ∧((lenOk y1.2.1) ∧((lenOk y1.2.2) ∧(((((v_lof y1.2.1 y1.2.2).2 != zz0)=false) →(((v_lof y1.2.1 y1.2.2).2 != zz0)=((v_lof y1.2.1 y1.2.2).2 != zz0))) ∧(((((v_lof y1.2.1 y1.2.2).2 != zz0)=false) →(((v_lof y1.2.1 y1.2.2).2 != zz0)=((v_lof y1.2.1 y1.2.2).2 != zz0))) ∧(((((v_lof y1.2.1 y1.2.2).2 != zz0)=false) →(((v_lof y1.2.1 y1.2.2).2 != zz0)=((v_lof y1.2.1 y1.2.2).2 != zz0))) ∧((((v_lof y1.2.1 y1.2.2).2 != zz0)=((v_lof y1.2.1 y1.2.2).2 != zz0)) ∧((((cond ((v_lof y1.2.1 y1.2.2).2 != zz0) true (!(s_Z3 (v_lof y1.2.1 y1.2.2).1 zz0 p1)))=true) →(K false)) ∧(((cond ((v_lof y1.2.1 y1.2.2).2 != zz0) true (!(s_Z3 (v_lof y1.2.1 y1.2.2).1 zz0 p1)))=false) →((v_ser y1.2.1) ∧((v_ser y1.2.2) ∧((y1.2.1.length = y1.2.2.length) ∧(((zz0≤(v_lof y1.2.1 y1.2.2).1) ∧((v_lof y1.2.1 y1.2.2).1≤5)) ∧(((((v_mis y1.2.1 y1.2.2 (Int.toNat (v_lof y1.2.1 y1.2.2).1)).1 != zz0)=false) →(((v_mis y1.2.1 y1.2.2 (Int.toNat (v_lof y1.2.1 y1.2.2).1)).1 != zz0)=((v_mis y1.2.1 y1.2.2 (Int.toNat (v_lof y1.2.1 y1.2.2).1)).1 != zz0))) ∧((((v_mis y1.2.1 y1.2.2 (Int.toNat (v_lof y1.2.1 y1.2.2).1)).1 != zz0)=((v_mis y1.2.1 y1.2.2 (Int.toNat (v_lof y1.2.1 y1.2.2).1)).1 != zz0)) ∧((((cond ((v_mis y1.2.1 y1.2.2 (Int.toNat (v_lof y1.2.1 y1.2.2).1)).1 != zz0) true ((v_mis y1.2.1 y1.2.2 (Int.toNat (v_lof y1.2.1 y1.2.2).1)).2 == zz0))=true) →(K false)) ∧(((cond ((v_mis y1.2.1 y1.2.2 (Int.toNat (v_lof y1.2.1 y1.2.2).1)).1 != zz0) true ((v_mis y1.2.1 y1.2.2 (Int.toNat (v_lof y1.2.1 y1.2.2).1)).2 == zz0))=false) →((((decide ((p0.length:Int) > 20))=true) →(K true)) ∧(((decide ((p0.length:Int) > 20))=false) →(∃ n3,(loopP (fun (y4:(Int×(List (Int×(Int×(Int×(Int×Int))))))) k5 => ((((decide (y4.1 < (p0.length:Int)))=true) →((zz0≤y4.1) ∧((y4.1 < (y1.2.1.length:Int)) ∧((((y4.2.length + (List.length ((y4.1,(zz0,(zz0,(zz0,(y1.2.1.getD y4.1.toNat zz0))))) :: ([]:List (Int×(Int×(Int×(Int×Int)))))))) * 40)≤140737488355328) ∧(k5 ((wi (y4.1 + zz1)),(y4.2 ++ ((y4.1,(zz0,(zz0,(zz0,(y1.2.1.getD y4.1.toNat zz0))))) :: ([]:List (Int×(Int×(Int×(Int×Int))))))))))))) ∧(((decide (y4.1 < (p0.length:Int)))=false) →(((((v_lgx y4.2 p1).2 != zz0)=false) →(((v_lgx y4.2 p1).2 != zz0)=((v_lgx y4.2 p1).2 != zz0))) ∧(((((v_lgx y4.2 p1).2 != zz0)=false) →(((v_lgx y4.2 p1).2 != zz0)=((v_lgx y4.2 p1).2 != zz0))) ∧(((((v_lgx y4.2 p1).2 != zz0)=false) →(((v_lgx y4.2 p1).2 != zz0)=((v_lgx y4.2 p1).2 != zz0))) ∧(((((v_lgx y4.2 p1).2 != zz0)=false) →(((v_lgx y4.2 p1).2 != zz0)=((v_lgx y4.2 p1).2 != zz0))) ∧(((((v_lgx y4.2 p1).2 != zz0)=false) →(((v_lgx y4.2 p1).2 != zz0)=((v_lgx y4.2 p1).2 != zz0))) ∧((((v_lgx y4.2 p1).2 != zz0)=((v_lgx y4.2 p1).2 != zz0)) ∧((((cond ((v_lgx y4.2 p1).2 != zz0) true ((((v_lgx y4.2 p1).1.length:Nat):Int) != (wi ((p0.length:Int) - p1))))=true) →(K false)) ∧(((cond ((v_lgx y4.2 p1).2 != zz0) true ((((v_lgx y4.2 p1).1.length:Nat):Int) != (wi ((p0.length:Int) - p1))))=false) →(∃ n6,(loopP (fun (y7:Int) k8 => ((((decide (y7 < (((v_lgx y4.2 p1).1.length:Nat):Int)))=true) →((zz0≤y7) ∧((y7 < (((v_lgx y4.2 p1).1.length:Nat):Int)) ∧((zz0≤y7) ∧((y7 < (p0.length:Int)) ∧((((q2_Z1 p0 p1 y4 y7)=true) →(K false)) ∧(((q2_Z1 p0 p1 y4 y7)=false) →(k8 (wi (y7 + zz1)))))))))) ∧(((decide (y7 < (((v_lgx y4.2 p1).1.length:Nat):Int)))=false) →(K true)))) n6 zz0))))))))))))) n3 (zz0,([]:List (Int×(Int×(Int×(Int×Int))))))))))))))))))))))))))))))) n0 (zz0,((List.replicate (Int.toNat (p0.length:Int)) zz0),(List.replicate (Int.toNat (p0.length:Int)) zz0)))))))))))))))))))))))))))))
theorem w_Z1_eq (p0:gF) (p1:Int) (K:Bool→Prop):tfn F_Z1 A_Z1 C_Z1 P_Z1 R_Z1 (p0,p1) K = w_Z1 p0 p1 K := by kernel_rfl
def st_Z1_0 (p0:gF) (p1:Int) (_y1:(Int×((List Int)×(List Int)))) (y6:(Int×(List (Int×(Int×(Int×(Int×Int))))))) (y9:Int):Int ⊕ ((Int×(List (Int×(Int×(Int×(Int×Int)))))) ⊕ ((Int×((List Int)×(List Int))) ⊕ Bool)) := (cond (decide (y9 < (((v_lgx y6.2 p1).1.length:Nat):Int))) (cond (!(((List.getD (v_lgx y6.2 p1).1 y9.toNat ((0:Int),((0:Int),((0:Int),(0,0))))).1 == y9) && (((List.getD (v_lgx y6.2 p1).1 y9.toNat ((0:Int),((0:Int),((0:Int),(0,0))))).2.1 == 0) && (((List.getD (v_lgx y6.2 p1).1 y9.toNat ((0:Int),((0:Int),((0:Int),(0,0))))).2.2.1 == 0) && (((List.getD (v_lgx y6.2 p1).1 y9.toNat ((0:Int),((0:Int),((0:Int),(0,0))))).2.2.2.1 == 0) && (((List.getD (v_lgx y6.2 p1).1 y9.toNat ((0:Int),((0:Int),((0:Int),(0,0))))).2.2.2.2 == (p0.getD y9.toNat (0:Int))) && true)))))) (Sum.inr (Sum.inr (Sum.inr false))) (Sum.inl (IntKind.i64.wrap (y9 + 1)))) (Sum.inr (Sum.inr (Sum.inr true))))
abbrev sp_Z1_0 (p0:gF) (p1:Int) (_y1:(Int×((List Int)×(List Int)))) (y6:(Int×(List (Int×(Int×(Int×(Int×Int))))))) (y9:Int):List Prop := [(((decide (y9 < (((v_lgx y6.2 p1).1.length:Nat):Int)))=true)→((0:Int)≤y9)),(((decide (y9 < (((v_lgx y6.2 p1).1.length:Nat):Int)))=true)→(y9 < (((v_lgx y6.2 p1).1.length:Nat):Int))),(((decide (y9 < (((v_lgx y6.2 p1).1.length:Nat):Int)))=true)→(y9 < (p0.length:Int)))]
def st_Z1_1 (p0:gF) (p1:Int) (y1:(Int×((List Int)×(List Int)))) (y6:(Int×(List (Int×(Int×(Int×(Int×Int))))))):(Int×(List (Int×(Int×(Int×(Int×Int)))))) ⊕ ((Int×((List Int)×(List Int))) ⊕ Bool) := (cond (decide (y6.1 < (p0.length:Int))) (Sum.inl ((IntKind.i64.wrap (y6.1 + 1)),(y6.2 ++ ((y6.1,((0:Int),((0:Int),((0:Int),(y1.2.1.getD y6.1.toNat (0:Int)))))) :: ([]:List (Int×(Int×(Int×(Int×Int))))))))) (cond (cond ((v_lgx y6.2 p1).2 != 0) true ((((v_lgx y6.2 p1).1.length:Nat):Int) != (IntKind.i64.wrap ((p0.length:Int) - p1)))) (Sum.inr (Sum.inr false)) (lpv (Sum.inr (Sum.inr false)) (st_Z1_0 p0 p1 y1 y6) (0:Int))))
abbrev sp_Z1_1 (p0:gF) (p1:Int) (y1:(Int×((List Int)×(List Int)))) (y6:(Int×(List (Int×(Int×(Int×(Int×Int))))))):List Prop := [(((decide (y6.1 < (p0.length:Int)))=true)→((0:Int)≤y6.1)),(((decide (y6.1 < (p0.length:Int)))=true)→(y6.1 < (y1.2.1.length:Int))),(((decide (y6.1 < (p0.length:Int)))=true)→(((y6.2.length + (List.length ((y6.1,((0:Int),((0:Int),((0:Int),(y1.2.1.getD y6.1.toNat (0:Int)))))) :: ([]:List (Int×(Int×(Int×(Int×Int)))))))) * 40)≤140737488355328)),(((decide (y6.1 < (p0.length:Int)))=false)→(((cond ((v_lgx y6.2 p1).2 != 0) true ((((v_lgx y6.2 p1).1.length:Nat):Int) != (IntKind.i64.wrap ((p0.length:Int) - p1))))=false)→(OkL (st_Z1_0 p0 p1 y1 y6) (sp_Z1_0 p0 p1 y1 y6) (0:Int))))]
def st_Z1_2 (p0:gF) (p1:Int) (y1:(Int×((List Int)×(List Int)))):(Int×((List Int)×(List Int))) ⊕ Bool := (cond (decide (y1.1 < (p0.length:Int))) (Sum.inl ((IntKind.i64.wrap (y1.1 + 1)),((List.set y1.2.1 y1.1.toNat (p0.getD (Int.toNat (max (0:Int) (IntKind.i64.wrap (y1.1 - p1)))) (0:Int))),(List.set y1.2.2 y1.1.toNat (p0.getD (Int.toNat (min (IntKind.i64.wrap ((p0.length:Int) - 1)) (IntKind.i64.wrap (y1.1 + p1)))) (0:Int)))))) (cond (cond ((v_lof y1.2.1 y1.2.2).2 != 0) true (!(s_Z3 (v_lof y1.2.1 y1.2.2).1 (0:Int) p1))) (Sum.inr false) (cond (cond ((v_mis y1.2.1 y1.2.2 (Int.toNat (v_lof y1.2.1 y1.2.2).1)).1 != 0) true ((v_mis y1.2.1 y1.2.2 (Int.toNat (v_lof y1.2.1 y1.2.2).1)).2 == 0)) (Sum.inr false) (cond (decide ((p0.length:Int) > 20)) (Sum.inr true) (lpv (Sum.inr false) (st_Z1_1 p0 p1 y1) ((0:Int),([]:List (Int×(Int×(Int×(Int×Int)))))))))))
abbrev sp_Z1_2 (p0:gF) (p1:Int) (y1:(Int×((List Int)×(List Int)))):List Prop := [(((decide (y1.1 < (p0.length:Int)))=true)→((0:Int)≤(max (0:Int) (IntKind.i64.wrap (y1.1 - p1))))),(((decide (y1.1 < (p0.length:Int)))=true)→((max (0:Int) (IntKind.i64.wrap (y1.1 - p1))) < (p0.length:Int))),(((decide (y1.1 < (p0.length:Int)))=true)→((0:Int)≤(min (IntKind.i64.wrap ((p0.length:Int) - 1)) (IntKind.i64.wrap (y1.1 + p1))))),(((decide (y1.1 < (p0.length:Int)))=true)→((min (IntKind.i64.wrap ((p0.length:Int) - 1)) (IntKind.i64.wrap (y1.1 + p1))) < (p0.length:Int))),(((decide (y1.1 < (p0.length:Int)))=true)→((0:Int)≤y1.1)),(((decide (y1.1 < (p0.length:Int)))=true)→(y1.1 < (y1.2.1.length:Int))),(((decide (y1.1 < (p0.length:Int)))=true)→(y1.1 < (y1.2.2.length:Int))),(((decide (y1.1 < (p0.length:Int)))=false)→(y1.2.1.length≤1000000)),(((decide (y1.1 < (p0.length:Int)))=false)→(y1.2.2.length≤1000000)),(((decide (y1.1 < (p0.length:Int)))=false)→(lenOk y1.2.1)),(((decide (y1.1 < (p0.length:Int)))=false)→(lenOk y1.2.2)),(((decide (y1.1 < (p0.length:Int)))=false)→(((cond ((v_lof y1.2.1 y1.2.2).2 != 0) true (!(s_Z3 (v_lof y1.2.1 y1.2.2).1 (0:Int) p1)))=false)→(v_ser y1.2.1))),(((decide (y1.1 < (p0.length:Int)))=false)→(((cond ((v_lof y1.2.1 y1.2.2).2 != 0) true (!(s_Z3 (v_lof y1.2.1 y1.2.2).1 (0:Int) p1)))=false)→(v_ser y1.2.2))),(((decide (y1.1 < (p0.length:Int)))=false)→(((cond ((v_lof y1.2.1 y1.2.2).2 != 0) true (!(s_Z3 (v_lof y1.2.1 y1.2.2).1 (0:Int) p1)))=false)→(y1.2.1.length = y1.2.2.length))),(((decide (y1.1 < (p0.length:Int)))=false)→(((cond ((v_lof y1.2.1 y1.2.2).2 != 0) true (!(s_Z3 (v_lof y1.2.1 y1.2.2).1 (0:Int) p1)))=false)→(((0:Int)≤(v_lof y1.2.1 y1.2.2).1)∧((v_lof y1.2.1 y1.2.2).1≤5)))),(((decide (y1.1 < (p0.length:Int)))=false)→(((cond ((v_lof y1.2.1 y1.2.2).2 != 0) true (!(s_Z3 (v_lof y1.2.1 y1.2.2).1 (0:Int) p1)))=false)→(((cond ((v_mis y1.2.1 y1.2.2 (Int.toNat (v_lof y1.2.1 y1.2.2).1)).1 != 0) true ((v_mis y1.2.1 y1.2.2 (Int.toNat (v_lof y1.2.1 y1.2.2).1)).2 == 0))=false)→(((decide ((p0.length:Int) > 20))=false)→(OkL (st_Z1_1 p0 p1 y1) (sp_Z1_1 p0 p1 y1) ((0:Int),([]:List (Int×(Int×(Int×(Int×Int)))))))))))]
def s_Z1 (p0:gF) (p1:Int):Bool := (cond (cond (cond (cond (cond (decide ((p0.length:Int) < 6)) true (decide ((p0.length:Int) > 30))) true ((v_serr p0) != 0)) true (!(s_Z3 p1 (0:Int) (5:Int)))) true (decide ((IntKind.i64.wrap ((2:Int) * p1)) ≥ (p0.length:Int)))) true (lpv false (st_Z1_2 p0 p1) ((0:Int),((List.replicate (Int.toNat (p0.length:Int)) (0:Int)),(List.replicate (Int.toNat (p0.length:Int)) (0:Int))))))
abbrev pre_Z1 (p0:gF) (p1:Int):List Prop := [(((cond (cond (cond (cond (decide ((p0.length:Int) < 6)) true (decide ((p0.length:Int) > 30))) true ((v_serr p0) != 0)) true (!(s_Z3 p1 (0:Int) (5:Int)))) true (decide ((IntKind.i64.wrap ((2:Int) * p1)) ≥ (p0.length:Int))))=false)→((0:Int)≤(p0.length:Int))),(((cond (cond (cond (cond (decide ((p0.length:Int) < 6)) true (decide ((p0.length:Int) > 30))) true ((v_serr p0) != 0)) true (!(s_Z3 p1 (0:Int) (5:Int)))) true (decide ((IntKind.i64.wrap ((2:Int) * p1)) ≥ (p0.length:Int))))=false)→(((8:Int) * (p0.length:Int))≤281474976710656)),(((cond (cond (cond (cond (decide ((p0.length:Int) < 6)) true (decide ((p0.length:Int) > 30))) true ((v_serr p0) != 0)) true (!(s_Z3 p1 (0:Int) (5:Int)))) true (decide ((IntKind.i64.wrap ((2:Int) * p1)) ≥ (p0.length:Int))))=false)→((p0.length:Int)≤9223372036854775807)),(((cond (cond (cond (cond (decide ((p0.length:Int) < 6)) true (decide ((p0.length:Int) > 30))) true ((v_serr p0) != 0)) true (!(s_Z3 p1 (0:Int) (5:Int)))) true (decide ((IntKind.i64.wrap ((2:Int) * p1)) ≥ (p0.length:Int))))=false)→(OkL (st_Z1_2 p0 p1) (sp_Z1_2 p0 p1) ((0:Int),((List.replicate (Int.toNat (p0.length:Int)) (0:Int)),(List.replicate (Int.toNat (p0.length:Int)) (0:Int))))))]
theorem d_Z1 (p0:gF) (p1:Int) (K:Bool→Prop) (hp:∀ p∈pre_Z1 p0 p1,p) (h:K (s_Z1 p0 p1)):w_Z1 p0 p1 K := by
 unfold w_Z1
 unfold s_Z1 at h
 obtain ⟨hp0,hp1,hp2,hp3,_⟩ := conj_of hp
 exact ⟨nof,fun _ => ⟨rf,rf,rfl,rf,rf,rfl,rf,rf,rfl,rf,rf,rf,rf,rfl,(br' h (fun e0 h => h)
  (fun e0 h => ⟨(hp0 e0),(hp1 e0),(hp2 e0),(hp0 e0),(hp1 e0),(hp2 e0),(loop_gen (hp3 e0) h (fun y1 k1 hp h => by
 unfold st_Z1_2 at h; obtain ⟨hp0,hp1,hp2,hp3,hp4,hp5,hp6,hp7,hp8,hp9,hp10,hp11,hp12,hp13,hp14,hp15,_⟩ := conj_of hp
 exact (br' h (fun e2 h => ⟨(hp0 e2),(hp1 e2),(hp2 e2),(hp3 e2),(hp4 e2),(hp5 e2),(hp4 e2),(hp6 e2),h⟩)
  (fun e2 h => ⟨(hp7 e2),(hp8 e2),(hp9 e2),(hp10 e2),rf,rf,rf,rfl,(br' h (fun e3 h => h)
  (fun e3 h => ⟨(hp11 e2 e3),(hp12 e2 e3),(hp13 e2 e3),(hp14 e2 e3),rf,rfl,(br' h (fun e4 h => h)
  (fun e4 h => (br' h (fun e5 h => h)
  (fun e5 h => (loop_gen (hp15 e2 e3 e4 e5) h (fun y6 k6 hp h => by
 unfold st_Z1_1 at h; obtain ⟨hp0,hp1,hp2,hp3,_⟩ := conj_of hp
 exact (br' h (fun e7 h => ⟨(hp0 e7),(hp1 e7),(hp2 e7),h⟩)
  (fun e7 h => ⟨rf,rf,rf,rf,rf,rfl,(br' h (fun e8 h => h)
  (fun e8 h => (loop_gen (hp3 e7 e8) h (fun y9 k9 hp h => by
 unfold st_Z1_0 at h; obtain ⟨hp0,hp1,hp2,_⟩ := conj_of hp
 exact (br' h (fun e10 h => ⟨(hp0 e10),(hp1 e10),(hp0 e10),(hp2 e10),(br' h (fun e11 h => h)
  (fun e11 h => h))⟩)
  (fun e10 h => h))))))⟩))))))))⟩))⟩))))⟩))⟩⟩
abbrev con_Z1:Con := ⟨P_Z1,R_Z1,fun x => pre_Z1 x.1 x.2,fun x => s_Z1 x.1 x.2⟩
theorem ok_Z1:ConOk Try.prog 10 con_Z1 := okG k_Z1 e_Z1 hC_Z1 fun x hx => tf_of (w_Z1_eq x.1 x.2 _) (d_Z1 x.1 x.2 _ hx rfl)
end Go.Proofs.Ytdkhhafmidokmaa
