/- What the functions that MagnetSpikes reaches compute: contracts, each function once. No condition. -/
import Derived.Test.YtdkhhafmidokmaaLayB
import Derived.Test.YtdkhhafmidokmaaAwMMagnetSpikes
import Derived.KernelRfl
namespace Go.Proofs.Ytdkhhafmidokmaa
open Go Go.Mx
set_option maxRecDepth 100000
set_option maxHeartbeats 4000000
abbrev gF:=List Int
abbrev gG:=Int×Int
abbrev gA:=List (List Int×List Int)
abbrev gB:=List (Int×Int×Int)
abbrev gC:=List (Int×Int)
abbrev gE:=Int×List Int
abbrev gD:=(Int×List Int)×(Int×List Int)
theorem fM.{u} {α:Type u} {p:α→Prop} {a:α} {l:List α}:(∀ x∈a::l,p x) ↔ p a ∧ ∀ x∈l,p x := List.forall_mem_cons
theorem cC {P:Program} {f:FuncId} {ids:List FuncId} {c:Con} {C:Cons} (h:ConOk P f c) (hC:ConsOk P C) (hm:isMark ids=false := by rfl):ConsOk P ((f,ids,c)::C) := ConsOk.cons h hC hm
theorem okG {P:Program} {f:FuncId} {F:TFn} {A:Nat→Ty} {C:Cons} {ps rs:List PSh} {pre:(tyPs ps).den→List Prop} {s:(tyPs ps).den→(tyPs rs).den} (k:callable P f=true) (e:cFn P f=some F.erase) (hC:ConsOk P C) (h:∀ x,(∀ p∈pre x,p)→Tf F A C ps rs x (fun z => z=s x)):ConOk P f ⟨ps,rs,pre,s⟩ := ⟨k,fun x hx => ret_tf e hC (h x hx)⟩
abbrev wi (n:Int):Int := IntKind.i64.wrap n
abbrev zz0:Int := 0
abbrev zz1:Int := 1
abbrev zz2:Int := 2
theorem od {p:Prop} [Decidable p] (h:decide p = true):p := of_decide_eq_true h
theorem nof {p:Prop} (h:false = true):p := Bool.noConfusion h
theorem rf {p:Prop} {α:Sort _} {a:α} (_:p):a = a := rfl

def v_ceil (a b:Int):Int := -((-a) / b)
def C_Ze:Cons := []
theorem hC_Ze:ConsOk Try.prog C_Ze := ConsOk.nil
def w_Ze (p0:gF) (K:(List Int)→Prop):Prop := (((((List.length ([]:List Int)) + p0.length) * 8)≤140737488355328) ∧(K (([]:List Int) ++ p0)))
theorem w_Ze_eq (p0:gF) (K:(List Int)→Prop):tfnO F_Ze A_Ze C_Ze P_Ze E_Ze p0 K = w_Ze p0 K := by kernel_rfl
def s_Ze (p0:gF):(List Int) := (([]:List Int) ++ p0)
abbrev pre_Ze (p0:gF):List Prop := [((((List.length ([]:List Int)) + p0.length) * 8)≤140737488355328)]
theorem d_Ze (p0:gF) (K:(List Int)→Prop) (hp:∀ p∈pre_Ze p0,p) (h:K (s_Ze p0)):w_Ze p0 K := by
 unfold w_Ze
 unfold s_Ze at h
 obtain ⟨hp0,_⟩ := conj_of hp
 exact ⟨(hp0),h⟩
abbrev t_Ze (p0:gF):List Int := p0
abbrev qre_Ze (p0:gF):List Prop := [p0.length≤1000000]
theorem pp_Ze (p0:gF) (hq:∀ p∈qre_Ze p0,p):∀ p∈pre_Ze p0,p := by
 simp only [pre_Ze,fM]
 have := (conj_of hq).1
 exact ⟨by simp; omega,by simp⟩
theorem tt_Ze (p0:gF) (_hq:∀ p∈qre_Ze p0,p):s_Ze p0 = t_Ze p0 := by
 rfl

abbrev con_Ze:Con := ⟨P_Ze,[.one (.sl E_Ze)],fun x => qre_Ze x,fun x => t_Ze x⟩
theorem ok_Ze:ConOOk Try.prog 46 con_Ze := conO_tf (e := E_Ze) (ps := P_Ze) k_Ze e_Ze hC_Ze (fun x hx => tfo_of (w_Ze_eq x (fun z => z = t_Ze x)) (d_Ze x (fun z => z = t_Ze x) (pp_Ze x hx) (tt_Ze x hx)))
def C_Z2:Cons := []
theorem hC_Z2:ConsOk Try.prog C_Z2 := ConsOk.nil
def w_Z2 (p0:Int) (p1:Int) (p2:Int) (K:Bool→Prop):Prop := ((((decide (p1≤p0))=true) →((decide (p1≤p0))=(decide (p1≤p0)))) ∧((((decide (p1≤p0))=true) →((decide (p1≤p0))=(decide (p1≤p0)))) ∧(((decide (p1≤p0))=(decide (p1≤p0))) ∧(K (cond (decide (p1≤p0)) (decide (p0≤p2)) false)))))
theorem w_Z2_eq (p0:Int) (p1:Int) (p2:Int) (K:Bool→Prop):tfn F_Z2 A_Z2 C_Z2 P_Z2 R_Z2 (p0,p1,p2) K = w_Z2 p0 p1 p2 K := by kernel_rfl
def s_Z2 (p0:Int) (p1:Int) (p2:Int):Bool := (cond (decide (p1≤p0)) (decide (p0≤p2)) false)
abbrev pre_Z2 (_p0:Int) (_p1:Int) (_p2:Int):List Prop := []
theorem d_Z2 (p0:Int) (p1:Int) (p2:Int) (K:Bool→Prop) (_hp:∀ p∈pre_Z2 p0 p1 p2,p) (h:K (s_Z2 p0 p1 p2)):w_Z2 p0 p1 p2 K := by
 unfold w_Z2
 unfold s_Z2 at h
 exact ⟨rf,rf,rfl,h⟩
abbrev con_Z2:Con := ⟨P_Z2,R_Z2,fun x => pre_Z2 x.1 x.2.1 x.2.2,fun x => s_Z2 x.1 x.2.1 x.2.2⟩
theorem ok_Z2:ConOk Try.prog 17 con_Z2 := okG k_Z2 e_Z2 hC_Z2 fun x hx => tf_of (w_Z2_eq x.1 x.2.1 x.2.2 _) (d_Z2 x.1 x.2.1 x.2.2 _ hx rfl)
theorem tx_within {n lo hi:Int}:s_Z2 n lo hi = true ↔ lo≤n∧n≤hi := by unfold s_Z2; simp
def C_Z9:Cons := []
theorem hC_Z9:ConsOk Try.prog C_Z9 := ConsOk.nil
def w_Z9 (p0:Int) (p1:Int) (p2:Int) (K:Bool→Prop):Prop := ((((decide (p1≤p0))=true) →((decide (p1≤p0))=(decide (p1≤p0)))) ∧((((decide (p1≤p0))=true) →((decide (p1≤p0))=(decide (p1≤p0)))) ∧(((decide (p1≤p0))=(decide (p1≤p0))) ∧(K (cond (decide (p1≤p0)) (decide (p0≤p2)) false)))))
theorem w_Z9_eq (p0:Int) (p1:Int) (p2:Int) (K:Bool→Prop):tfn F_Z9 A_Z9 C_Z9 P_Z9 R_Z9 (p0,p1,p2) K = w_Z9 p0 p1 p2 K := by kernel_rfl
def s_Z9 (p0:Int) (p1:Int) (p2:Int):Bool := (cond (decide (p1≤p0)) (decide (p0≤p2)) false)
abbrev pre_Z9 (_p0:Int) (_p1:Int) (_p2:Int):List Prop := []
theorem d_Z9 (p0:Int) (p1:Int) (p2:Int) (K:Bool→Prop) (_hp:∀ p∈pre_Z9 p0 p1 p2,p) (h:K (s_Z9 p0 p1 p2)):w_Z9 p0 p1 p2 K := by
 unfold w_Z9
 unfold s_Z9 at h
 exact ⟨rf,rf,rfl,h⟩
abbrev con_Z9:Con := ⟨P_Z9,R_Z9,fun x => pre_Z9 x.1 x.2.1 x.2.2,fun x => s_Z9 x.1 x.2.1 x.2.2⟩
theorem ok_Z9:ConOk Try.prog 86 con_Z9 := okG k_Z9 e_Z9 hC_Z9 fun x hx => tf_of (w_Z9_eq x.1 x.2.1 x.2.2 _) (d_Z9 x.1 x.2.1 x.2.2 _ hx rfl)
theorem tx_withinG {n lo hi:Int}:s_Z9 n lo hi = s_Z2 n lo hi := rfl
def C_Zg:Cons := [(86,[],con_Z9)]
theorem hC_Zg:ConsOk Try.prog C_Zg := cC ok_Z9 <| ConsOk.nil
def w_Zg (p0:Int) (p1:Int) (K:Bool→Prop):Prop := (K (s_Z9 p0 (IntKind.i64.wrap (zz0 - p1)) p1))
theorem w_Zg_eq (p0:Int) (p1:Int) (K:Bool→Prop):tfn F_Zg A_Zg C_Zg P_Zg R_Zg (p0,p1) K = w_Zg p0 p1 K := by kernel_rfl
def s_Zg (p0:Int) (p1:Int):Bool := (s_Z9 p0 (IntKind.i64.wrap ((0:Int) - p1)) p1)
abbrev pre_Zg (_p0:Int) (_p1:Int):List Prop := []
theorem d_Zg (p0:Int) (p1:Int) (K:Bool→Prop) (_hp:∀ p∈pre_Zg p0 p1,p) (h:K (s_Zg p0 p1)):w_Zg p0 p1 K := by
 unfold w_Zg
 unfold s_Zg at h
 exact h
abbrev con_Zg:Con := ⟨P_Zg,R_Zg,fun x => pre_Zg x.1 x.2,fun x => s_Zg x.1 x.2⟩
theorem ok_Zg:ConOk Try.prog 83 con_Zg := okG k_Zg e_Zg hC_Zg fun x hx => tf_of (w_Zg_eq x.1 x.2 _) (d_Zg x.1 x.2 _ hx rfl)
def C_Zi:Cons := [(83,[],con_Zg)]
theorem hC_Zi:ConsOk Try.prog C_Zi := cC ok_Zg <| ConsOk.nil
def w_Zi (p0:Int) (K:Bool→Prop):Prop := (K (s_Z9 p0 (-100000:Int) (100000:Int)))
theorem w_Zi_eq (p0:Int) (K:Bool→Prop):tfn F_Zi A_Zi C_Zi P_Zi R_Zi p0 K = w_Zi p0 K := by kernel_rfl
def s_Zi (p0:Int):Bool := (s_Z9 p0 (-100000:Int) (100000:Int))
abbrev pre_Zi (_p0:Int):List Prop := []
theorem d_Zi (p0:Int) (K:Bool→Prop) (_hp:∀ p∈pre_Zi p0,p) (h:K (s_Zi p0)):w_Zi p0 K := by
 unfold w_Zi
 unfold s_Zi at h
 exact h
abbrev con_Zi:Con := ⟨P_Zi,R_Zi,fun x => pre_Zi x,fun x => s_Zi x⟩
theorem ok_Zi:ConOk Try.prog 85 con_Zi := okG k_Zi e_Zi hC_Zi fun x hx => tf_of (w_Zi_eq x _) (d_Zi x _ hx rfl)
def C_Zh:Cons := [(85,[],con_Zi)]
theorem hC_Zh:ConsOk Try.prog C_Zh := cC ok_Zi <| ConsOk.nil
def w_Zh (p0:Int) (K:Bool→Prop):Prop := (K (!(s_Z9 p0 (-100000:Int) (100000:Int))))
theorem w_Zh_eq (p0:Int) (K:Bool→Prop):tfn F_Zh A_Zh C_Zh P_Zh R_Zh p0 K = w_Zh p0 K := by kernel_rfl
def s_Zh (p0:Int):Bool := (!(s_Z9 p0 (-100000:Int) (100000:Int)))
abbrev pre_Zh (_p0:Int):List Prop := []
theorem d_Zh (p0:Int) (K:Bool→Prop) (_hp:∀ p∈pre_Zh p0,p) (h:K (s_Zh p0)):w_Zh p0 K := by
 unfold w_Zh
 unfold s_Zh at h
 exact h
abbrev con_Zh:Con := ⟨P_Zh,R_Zh,fun x => pre_Zh x,fun x => s_Zh x⟩
theorem ok_Zh:ConOk Try.prog 125 con_Zh := okG k_Zh e_Zh hC_Zh fun x hx => tf_of (w_Zh_eq x _) (d_Zh x _ hx rfl)
def C_Za:Cons := [(125,[],con_Zh)]
theorem hC_Za:ConsOk Try.prog C_Za := cC ok_Zh <| ConsOk.nil
def w_Za (p0:gF) (_p1:PUnit) (K:Int→Prop):Prop := (∃ n0,(loopP (fun (y1:Int) k2 => ((((decide (y1 < (p0.length:Int)))=true) →((zz0≤y1) ∧((y1 < (p0.length:Int)) ∧((((!(s_Z9 (p0.getD y1.toNat zz0) (-100000:Int) (100000:Int)))=true) →(K y1)) ∧(((!(s_Z9 (p0.getD y1.toNat zz0) (-100000:Int) (100000:Int)))=false) →(k2 (IntKind.i64.wrap (y1 + 1)))))))) ∧(((decide (y1 < (p0.length:Int)))=false) →(K (-1:Int))))) n0 zz0))
theorem w_Za_eq (p0:gF) (p1:PUnit) (K:Int→Prop):tfn F_Za A_Za C_Za P_Za R_Za (p0,p1) K = w_Za p0 p1 K := by kernel_rfl
def st_Za_0 (p0:gF) (_p1:PUnit) (y0:Int):Int ⊕ Int := (cond (decide (y0 < (p0.length:Int))) (cond (!(s_Z9 (p0.getD y0.toNat (0:Int)) (-100000:Int) (100000:Int))) (Sum.inr y0) (Sum.inl (IntKind.i64.wrap (y0 + 1)))) (Sum.inr (-1:Int)))
abbrev sp_Za_0 (p0:gF) (_p1:PUnit) (y0:Int):List Prop := [(((decide (y0 < (p0.length:Int)))=true)→((0:Int)≤y0)),(((decide (y0 < (p0.length:Int)))=true)→(y0 < (p0.length:Int)))]
def s_Za (p0:gF) (p1:PUnit):Int := (lpv (0:Int) (st_Za_0 p0 p1) (0:Int))
abbrev pre_Za (p0:gF) (p1:PUnit):List Prop := [(OkL (st_Za_0 p0 p1) (sp_Za_0 p0 p1) (0:Int))]
theorem d_Za (p0:gF) (p1:PUnit) (K:Int→Prop) (hp:∀ p∈pre_Za p0 p1,p) (h:K (s_Za p0 p1)):w_Za p0 p1 K := by
 unfold w_Za
 unfold s_Za at h
 obtain ⟨hp0,_⟩ := conj_of hp
 exact (loop_gen (hp0) h (fun y0 k0 hp h => by
 unfold st_Za_0 at h; obtain ⟨hp0,hp1,_⟩ := conj_of hp
 exact (br' h (fun e1 h => ⟨(hp0 e1),(hp1 e1),(br' h (fun e2 h => h)
  (fun e2 h => h))⟩)
  (fun e1 h => h))))
/-- Whether a number is a reading. -/
def v_val (x:Int):Bool := s_Z2 x (-100000) 100000
def v_sidx (l:gF):Int := v_scan (fun i x => cond (!(v_val x)) (some i) none) (-1) 0 l
theorem l_Za_0 (p0:gF) (p1:PUnit) (hl:lenOk p0):OkL (st_Za_0 p0 p1) (sp_Za_0 p0 p1) 0∧lpv (0:Int) (st_Za_0 p0 p1) 0 = v_scan (fun i x => cond (!(v_val x)) (some i) none) (-1) 0 p0 := by
 refine scan_is p0 0 (fun i x => cond (!(v_val x)) (some i) none) (-1) hl ?_ ?_
 ·refine ⟨by simp only [sp_Za_0,fM,decide_eq_true_eq]; simp,by simp [st_Za_0]⟩
 ·intro j hj
  have hj' : (j:Int) < p0.length := by omega
  refine ⟨by simp only [sp_Za_0,fM,decide_eq_true_eq,Int.toNat_natCast]; simp <;> omega,?_⟩
  simp only [st_Za_0,hj',decide_true,Int.toNat_natCast,cond_true,wrap_nat (show (j:Int)≤9223372036854775806 by unfold lenOk at hl; omega)]
  have e:s_Z9 (p0.getD j 0) (-100000) 100000 = v_val (p0.getD j 0) := rfl
  rw [e]
  cases v_val (p0.getD j 0) <;> rfl
abbrev t_Za (p0:gF) (_p1:PUnit):Int := v_sidx p0
abbrev qre_Za (p0:gF) (_p1:PUnit):List Prop := [lenOk p0]
theorem pp_Za (p0:gF) (p1:PUnit) (hq:∀ p∈qre_Za p0 p1,p):∀ p∈pre_Za p0 p1,p := by
 simp only [pre_Za,fM]
 exact ⟨(l_Za_0 p0 p1 (conj_of hq).1).1,by simp⟩
theorem tt_Za (p0:gF) (p1:PUnit) (hq:∀ p∈qre_Za p0 p1,p):s_Za p0 p1 = t_Za p0 p1 := by
 exact (l_Za_0 p0 p1 (conj_of hq).1).2

abbrev con_Za:Con := ⟨P_Za,R_Za,fun x => qre_Za x.1 x.2,fun x => t_Za x.1 x.2⟩
theorem ok_Za:ConOk Try.prog 137 con_Za := okG k_Za e_Za hC_Za fun x hx => tf_of (w_Za_eq x.1 x.2 _) (d_Za x.1 x.2 _ (pp_Za x.1 x.2 hx) (tt_Za x.1 x.2 hx))
def C_Z4:Cons := []
theorem hC_Z4:ConsOk Try.prog C_Z4 := ConsOk.nil
def w_Z4 (p0:gF) (K:Int→Prop):Prop := (∃ n0,(loopP (fun (y1:Int) k2 => ((((decide (y1 < (p0.length:Int)))=true) →((zz0≤y1) ∧((y1 < (p0.length:Int)) ∧(((((p0.getD y1.toNat zz0) != 0)=true) →(K (p0.getD y1.toNat zz0))) ∧((((p0.getD y1.toNat zz0) != 0)=false) →(k2 (IntKind.i64.wrap (y1 + 1)))))))) ∧(((decide (y1 < (p0.length:Int)))=false) →(K zz0)))) n0 zz0))
theorem w_Z4_eq (p0:gF) (K:Int→Prop):tfn F_Z4 A_Z4 C_Z4 P_Z4 R_Z4 p0 K = w_Z4 p0 K := by kernel_rfl
def st_Z4_0 (p0:gF) (y0:Int):Int ⊕ Int := (cond (decide (y0 < (p0.length:Int))) (cond ((p0.getD y0.toNat (0:Int)) != 0) (Sum.inr (p0.getD y0.toNat (0:Int))) (Sum.inl (IntKind.i64.wrap (y0 + 1)))) (Sum.inr (0:Int)))
abbrev sp_Z4_0 (p0:gF) (y0:Int):List Prop := [(((decide (y0 < (p0.length:Int)))=true)→((0:Int)≤y0)),(((decide (y0 < (p0.length:Int)))=true)→(y0 < (p0.length:Int)))]
def s_Z4 (p0:gF):Int := (lpv (0:Int) (st_Z4_0 p0) (0:Int))
abbrev pre_Z4 (p0:gF):List Prop := [(OkL (st_Z4_0 p0) (sp_Z4_0 p0) (0:Int))]
theorem d_Z4 (p0:gF) (K:Int→Prop) (hp:∀ p∈pre_Z4 p0,p) (h:K (s_Z4 p0)):w_Z4 p0 K := by
 unfold w_Z4
 unfold s_Z4 at h
 obtain ⟨hp0,_⟩ := conj_of hp
 exact (loop_gen (hp0) h (fun y0 k0 hp h => by
 unfold st_Z4_0 at h; obtain ⟨hp0,hp1,_⟩ := conj_of hp
 exact (br' h (fun e1 h => ⟨(hp0 e1),(hp1 e1),(br' h (fun e2 h => h)
  (fun e2 h => h))⟩)
  (fun e1 h => h))))
theorem l_Z4_0 (p0:gF) (hl:lenOk p0):OkL (st_Z4_0 p0) (sp_Z4_0 p0) 0∧lpv (0:Int) (st_Z4_0 p0) 0 = v_scan (fun _ x => cond (x != 0) (some x) none) (0:Int) 0 p0 := by
 refine scan_is p0 0 (fun _ x => cond (x != 0) (some x) none) (0:Int) hl ?_ ?_
 ·refine ⟨by simp only [sp_Z4_0,fM,decide_eq_true_eq]; simp,by simp [st_Z4_0]⟩
 ·intro j hj
  have hj' : (j:Int) < p0.length := by omega
  refine ⟨by simp only [sp_Z4_0,fM,decide_eq_true_eq,Int.toNat_natCast]; simp <;> omega,?_⟩
  simp only [st_Z4_0,hj',decide_true,Int.toNat_natCast,cond_true,wrap_nat (show (j:Int)≤9223372036854775806 by unfold lenOk at hl; omega)]
  generalize p0.getD j 0 = x
  cases (x != 0) <;> rfl
abbrev t_Z4 (p0:gF):Int := v_first p0
abbrev qre_Z4 (p0:gF):List Prop := [lenOk p0]
theorem pp_Z4 (p0:gF) (hq:∀ p∈qre_Z4 p0,p):∀ p∈pre_Z4 p0,p := by
 simp only [pre_Z4,fM]
 exact ⟨(l_Z4_0 p0 (conj_of hq).1).1,by simp⟩
theorem tt_Z4 (p0:gF) (hq:∀ p∈qre_Z4 p0,p):s_Z4 p0 = t_Z4 p0 := by
 exact (l_Z4_0 p0 (conj_of hq).1).2.trans (v_first_scan p0 0)

abbrev con_Z4:Con := ⟨P_Z4,R_Z4,fun x => qre_Z4 x,fun x => t_Z4 x⟩
theorem ok_Z4:ConOk Try.prog 71 con_Z4 := okG k_Z4 e_Z4 hC_Z4 fun x hx => tf_of (w_Z4_eq x _) (d_Z4 x _ (pp_Z4 x hx) (tt_Z4 x hx))
def C_Zb:Cons := []
theorem hC_Zb:ConsOk Try.prog C_Zb := ConsOk.nil
def w_Zb (p0:Bool) (p1:Int) (K:Int→Prop):Prop := (((p0 = true) →(K zz0)) ∧((p0 = false) →(K p1)))
theorem w_Zb_eq (p0:Bool) (p1:Int) (K:Int→Prop):tfn F_Zb A_Zb C_Zb P_Zb R_Zb (p0,p1) K = w_Zb p0 p1 K := by kernel_rfl
def s_Zb (p0:Bool) (p1:Int):Int := (cond p0 (0:Int) p1)
abbrev pre_Zb (_p0:Bool) (_p1:Int):List Prop := []
theorem d_Zb (p0:Bool) (p1:Int) (K:Int→Prop) (_hp:∀ p∈pre_Zb p0 p1,p) (h:K (s_Zb p0 p1)):w_Zb p0 p1 K := by
 unfold w_Zb
 unfold s_Zb at h
 exact (br' h (fun e0 h => h)
  (fun e0 h => h))
abbrev con_Zb:Con := ⟨P_Zb,R_Zb,fun x => pre_Zb x.1 x.2,fun x => s_Zb x.1 x.2⟩
theorem ok_Zb:ConOk Try.prog 66 con_Zb := okG k_Zb e_Zb hC_Zb fun x hx => tf_of (w_Zb_eq x.1 x.2 _) (d_Zb x.1 x.2 _ hx rfl)
theorem tx_unless0 {a:Bool} {x:Int} (hx:x ≠ 0) (h:s_Zb a x = 0):a = true := by
 cases a
 ·exact (hx h).elim
 ·rfl
theorem tx_unless {a:Bool} {x:Int}:s_Zb a x = cond a 0 x := by cases a <;> rfl
def C_Zk:Cons := [(137,[125],con_Za)]
theorem hC_Zk:ConsOk Try.prog C_Zk := cC ok_Za <| ConsOk.nil
def w_Zk (p0:gF) (_p1:PUnit) (K:Bool→Prop):Prop := ((lenOk p0) ∧(K (decide ((v_sidx p0) ≥ 0))))
theorem w_Zk_eq (p0:gF) (p1:PUnit) (K:Bool→Prop):tfn F_Zk A_Zk C_Zk P_Zk R_Zk (p0,p1) K = w_Zk p0 p1 K := by kernel_rfl
def s_Zk (p0:gF) (_p1:PUnit):Bool := (decide ((v_sidx p0) ≥ 0))
abbrev pre_Zk (p0:gF) (_p1:PUnit):List Prop := [(lenOk p0)]
theorem d_Zk (p0:gF) (p1:PUnit) (K:Bool→Prop) (hp:∀ p∈pre_Zk p0 p1,p) (h:K (s_Zk p0 p1)):w_Zk p0 p1 K := by
 unfold w_Zk
 unfold s_Zk at h
 obtain ⟨hp0,_⟩ := conj_of hp
 exact ⟨(hp0),h⟩
abbrev con_Zk:Con := ⟨P_Zk,R_Zk,fun x => pre_Zk x.1 x.2,fun x => s_Zk x.1 x.2⟩
theorem ok_Zk:ConOk Try.prog 124 con_Zk := okG k_Zk e_Zk hC_Zk fun x hx => tf_of (w_Zk_eq x.1 x.2 _) (d_Zk x.1 x.2 _ hx rfl)
def C_Zd:Cons := [(124,[125],con_Zk),(66,[],con_Zb),(71,[],con_Z4)]
theorem hC_Zd:ConsOk Try.prog C_Zd := cC ok_Zk <| cC ok_Zb <| cC ok_Z4 <| ConsOk.nil
def w_Zd (p0:gF) (K:Int→Prop):Prop := ((lenOk p0) ∧((lenOk ((s_Zb (decide ((p0.length:Int) > 0)) (10:Int)) :: ((s_Zb (decide ((p0.length:Int)≤40)) (8:Int)) :: ((s_Zb (!(decide ((v_sidx p0) ≥ 0))) (2:Int)) :: ([]:List Int))))) ∧(K (v_first ((s_Zb (decide ((p0.length:Int) > 0)) (10:Int)) :: ((s_Zb (decide ((p0.length:Int)≤40)) (8:Int)) :: ((s_Zb (!(decide ((v_sidx p0) ≥ 0))) (2:Int)) :: ([]:List Int))))))))
theorem w_Zd_eq (p0:gF) (K:Int→Prop):tfn F_Zd A_Zd C_Zd P_Zd R_Zd p0 K = w_Zd p0 K := by kernel_rfl
def s_Zd (p0:gF):Int := (v_first ((s_Zb (decide ((p0.length:Int) > 0)) (10:Int)) :: ((s_Zb (decide ((p0.length:Int)≤40)) (8:Int)) :: ((s_Zb (!(decide ((v_sidx p0) ≥ 0))) (2:Int)) :: ([]:List Int)))))
abbrev pre_Zd (p0:gF):List Prop := [(lenOk p0)]
theorem d_Zd (p0:gF) (K:Int→Prop) (hp:∀ p∈pre_Zd p0,p) (h:K (s_Zd p0)):w_Zd p0 K := by
 unfold w_Zd
 unfold s_Zd at h
 obtain ⟨hp0,_⟩ := conj_of hp
 exact ⟨(hp0),(lenOk_of 3 rfl (by decide)),h⟩
/-- What is wrong with a series. -/
def v_serr (l:gF):Int := cond ((l.length:Int) == 0) 10 (cond (decide ((l.length:Int) > 40)) 8 (cond (l.all v_val) 0 2))
structure v_ser (l:gF):Prop where
 ne:0 < l.length
 len:l.length≤40
 ok:∀ x∈l,-100000≤x∧x≤100000
theorem v_serr_ok {l:List Int} (h:v_serr l = 0):v_ser l := by
 unfold v_serr at h
 rcases int0 (l.length:Int) with ⟨_,_,e0⟩ | ⟨h0,_,e0⟩ <;> rw [e0] at h
 ·cases h
 rcases dec0 (a := 40) (b := (l.length:Int)) with ⟨_,_,_,_,e1⟩ | ⟨h1,_,_,_,e1⟩ <;> rw [e1] at h
 ·cases h
 cases c:l.all v_val <;> rw [c] at h
 ·cases h
 ·exact ⟨by omega,by omega,fun x hx => tx_within.1 (List.all_eq_true.1 c x hx)⟩
theorem v_ser_get {l:List Int} (h:v_ser l) {i:Nat} (hi:i < l.length) : -100000≤l.getD i 0∧l.getD i 0≤100000 := h.ok _ (getD_mem' 0 hi)
abbrev t_Zd (p0:gF):Int := v_serr p0
abbrev qre_Zd (p0:gF):List Prop := [lenOk p0]
theorem pp_Zd (p0:gF) (hq:∀ p∈qre_Zd p0,p):∀ p∈pre_Zd p0,p := by
 obtain ⟨h1,_⟩ := conj_of hq
 simp only [pre_Zd,fM]
 exact ⟨h1,by simp⟩
theorem tt_Zd (p0:gF) (_hq:∀ p∈qre_Zd p0,p):s_Zd p0 = t_Zd p0 := by
 unfold s_Zd t_Zd v_serr v_sidx
 rw [v_scan_idx (c := fun x => !(v_val x)) p0 0 (Int.le_refl _),show p0.any (fun x => !(v_val x)) = !(p0.all v_val) by rw [List.not_all_eq_any_not],Bool.not_not]
 unfold s_Zb
 rcases int0 (p0.length:Int) with ⟨h0,_,e0⟩ | ⟨h0,_,e0⟩ <;> rw [e0]
 ·rw [h0]; rfl
 ·rw [decide_eq_true (show (p0.length:Int) > 0 by omega)]
  rcases dec0 (a := 40) (b := (p0.length:Int)) with ⟨_,_,_,e1,e2⟩ | ⟨_,_,_,e1,e2⟩ <;> rw [e1,e2]
  ·rfl
  ·cases p0.all v_val <;> rfl

abbrev con_Zd:Con := ⟨P_Zd,R_Zd,fun x => qre_Zd x,fun x => t_Zd x⟩
theorem ok_Zd:ConOk Try.prog 100 con_Zd := okG k_Zd e_Zd hC_Zd fun x hx => tf_of (w_Zd_eq x _) (d_Zd x _ (pp_Zd x hx) (tt_Zd x hx))
def C_Zf:Cons := []
theorem hC_Zf:ConsOk Try.prog C_Zf := ConsOk.nil
def w_Zf (p0:Int) (p1:Int) (K:Int→Prop):Prop := ((p1 ≠ zz0) ∧((p1 ≠ zz0) ∧((((decide ((Int.tmod p0 p1) < 0))=true) →(K (IntKind.i64.wrap ((IntKind.i64.wrap (Int.tdiv p0 p1)) - 1)))) ∧(((decide ((Int.tmod p0 p1) < 0))=false) →(K (IntKind.i64.wrap (Int.tdiv p0 p1)))))))
theorem w_Zf_eq (p0:Int) (p1:Int) (K:Int→Prop):tfn F_Zf A_Zf C_Zf P_Zf R_Zf (p0,p1) K = w_Zf p0 p1 K := by kernel_rfl
def s_Zf (p0:Int) (p1:Int):Int := (cond (decide ((Int.tmod p0 p1) < 0)) (IntKind.i64.wrap ((IntKind.i64.wrap (Int.tdiv p0 p1)) - 1)) (IntKind.i64.wrap (Int.tdiv p0 p1)))
abbrev pre_Zf (_p0:Int) (p1:Int):List Prop := [(p1 ≠ (0:Int))]
theorem d_Zf (p0:Int) (p1:Int) (K:Int→Prop) (hp:∀ p∈pre_Zf p0 p1,p) (h:K (s_Zf p0 p1)):w_Zf p0 p1 K := by
 unfold w_Zf
 unfold s_Zf at h
 obtain ⟨hp0,_⟩ := conj_of hp
 exact ⟨(hp0),(hp0),(br' h (fun e0 h => h)
  (fun e0 h => h))⟩
abbrev t_Zf (p0 p1:Int):Int := p0 / p1
abbrev qre_Zf (p0 p1:Int):List Prop := [v_fit p0,0 < p1]
theorem pp_Zf (p0 p1:Int) (hq:∀ p∈qre_Zf p0 p1,p):∀ p∈pre_Zf p0 p1,p := by
 simp only [pre_Zf,fM]
 have := (conj_of hq).2.1
 exact ⟨by omega,by simp⟩
theorem tt_Zf (p0 p1:Int) (hq:∀ p∈qre_Zf p0 p1,p):s_Zf p0 p1 = t_Zf p0 p1 := floor_is (conj_of hq).1 (conj_of hq).2.1

abbrev con_Zf:Con := ⟨P_Zf,R_Zf,fun x => qre_Zf x.1 x.2,fun x => t_Zf x.1 x.2⟩
theorem ok_Zf:ConOk Try.prog 30 con_Zf := okG k_Zf e_Zf hC_Zf fun x hx => tf_of (w_Zf_eq x.1 x.2 _) (d_Zf x.1 x.2 _ (pp_Zf x.1 x.2 hx) (tt_Zf x.1 x.2 hx))
def C_Zc:Cons := []
theorem hC_Zc:ConsOk Try.prog C_Zc := ConsOk.nil
def w_Zc (p0:Int) (p1:Int) (K:(Int×Int)→Prop):Prop := ((p1 ≠ zz0) ∧((p1 ≠ zz0) ∧((((decide ((Int.tmod p0 p1) < 0))=true) →(((((IntKind.i64.wrap ((IntKind.i64.wrap ((IntKind.i64.wrap (Int.tdiv p0 p1)) - 1)) * p1)) != p0)=true) →(K ((IntKind.i64.wrap ((IntKind.i64.wrap (Int.tdiv p0 p1)) - 1)),(IntKind.i64.wrap ((IntKind.i64.wrap ((IntKind.i64.wrap (Int.tdiv p0 p1)) - 1)) + 1))))) ∧((((IntKind.i64.wrap ((IntKind.i64.wrap ((IntKind.i64.wrap (Int.tdiv p0 p1)) - 1)) * p1)) != p0)=false) →(K ((IntKind.i64.wrap ((IntKind.i64.wrap (Int.tdiv p0 p1)) - 1)),(IntKind.i64.wrap ((IntKind.i64.wrap (Int.tdiv p0 p1)) - 1))))))) ∧(((decide ((Int.tmod p0 p1) < 0))=false) →(((((IntKind.i64.wrap ((IntKind.i64.wrap (Int.tdiv p0 p1)) * p1)) != p0)=true) →(K ((IntKind.i64.wrap (Int.tdiv p0 p1)),(IntKind.i64.wrap ((IntKind.i64.wrap (Int.tdiv p0 p1)) + 1))))) ∧((((IntKind.i64.wrap ((IntKind.i64.wrap (Int.tdiv p0 p1)) * p1)) != p0)=false) →(K ((IntKind.i64.wrap (Int.tdiv p0 p1)),(IntKind.i64.wrap (Int.tdiv p0 p1))))))))))
theorem w_Zc_eq (p0:Int) (p1:Int) (K:(Int×Int)→Prop):tfn F_Zc A_Zc C_Zc P_Zc R_Zc (p0,p1) K = w_Zc p0 p1 K := by kernel_rfl
def s_Zc (p0:Int) (p1:Int):(Int×Int) := (cond (decide ((Int.tmod p0 p1) < 0)) (cond ((IntKind.i64.wrap ((IntKind.i64.wrap ((IntKind.i64.wrap (Int.tdiv p0 p1)) - 1)) * p1)) != p0) ((IntKind.i64.wrap ((IntKind.i64.wrap (Int.tdiv p0 p1)) - 1)),(IntKind.i64.wrap ((IntKind.i64.wrap ((IntKind.i64.wrap (Int.tdiv p0 p1)) - 1)) + 1))) ((IntKind.i64.wrap ((IntKind.i64.wrap (Int.tdiv p0 p1)) - 1)),(IntKind.i64.wrap ((IntKind.i64.wrap (Int.tdiv p0 p1)) - 1)))) (cond ((IntKind.i64.wrap ((IntKind.i64.wrap (Int.tdiv p0 p1)) * p1)) != p0) ((IntKind.i64.wrap (Int.tdiv p0 p1)),(IntKind.i64.wrap ((IntKind.i64.wrap (Int.tdiv p0 p1)) + 1))) ((IntKind.i64.wrap (Int.tdiv p0 p1)),(IntKind.i64.wrap (Int.tdiv p0 p1)))))
abbrev pre_Zc (_p0:Int) (p1:Int):List Prop := [(p1 ≠ (0:Int))]
theorem d_Zc (p0:Int) (p1:Int) (K:(Int×Int)→Prop) (hp:∀ p∈pre_Zc p0 p1,p) (h:K (s_Zc p0 p1)):w_Zc p0 p1 K := by
 unfold w_Zc
 unfold s_Zc at h
 obtain ⟨hp0,_⟩ := conj_of hp
 exact ⟨(hp0),(hp0),(br' h (fun e0 h => (br' h (fun e1 h => h)
  (fun e1 h => h)))
  (fun e0 h => (br' h (fun e2 h => h)
  (fun e2 h => h))))⟩
abbrev t_Zc (p0:Int) (p1:Int):Int×Int := (p0 / p1,v_ceil p0 p1)
abbrev qre_Zc (p0:Int) (p1:Int):List Prop := [-4611686018427387904≤p0∧p0≤4611686018427387904,0 < p1∧p1≤4611686018427387904]
theorem pp_Zc (p0:Int) (p1:Int) (hq:∀ p∈qre_Zc p0 p1,p):∀ p∈pre_Zc p0 p1,p := by
 obtain ⟨h1,h2,_⟩ := conj_of hq
 simp only [pre_Zc,fM]
 exact ⟨by omega,by simp⟩
theorem tt_Zc (p0:Int) (p1:Int) (hq:∀ p∈qre_Zc p0 p1,p):s_Zc p0 p1 = t_Zc p0 p1 := by
 obtain ⟨h1,h2,_⟩ := conj_of hq
 have hf := floor_is (n := p0) (b := p1) ⟨by omega,by omega⟩ h2.1
 have m1 := Int.mul_ediv_add_emod p0 p1
 have m2 := Int.emod_nonneg p0 (show p1 ≠ 0 by omega)
 have m3 := Int.emod_lt_of_pos p0 h2.1
 have m4:p1 * (p0 / p1)=p0 / p1 * p1 := Int.mul_comm _ _
 have hd:(p0 / p1).natAbs≤p0.natAbs := Int.natAbs_ediv_le_natAbs _ _
 have w1:IntKind.i64.wrap (p0 / p1 * p1)=p0 / p1 * p1 := wrap_id (by omega) (by omega)
 have w2:IntKind.i64.wrap (p0 / p1 + 1)=p0 / p1 + 1 := wrap_id (by omega) (by omega)
 have hc:v_ceil p0 p1 = cond ((p0 / p1 * p1) != p0) (p0 / p1 + 1) (p0 / p1) := by
  unfold v_ceil
  by_cases e:p0 / p1 * p1 = p0
  ·rw [bne_eq_false_iff_eq.2 e,cond_false]
   have := ((Int.ediv_emod_unique (a := -p0) (b := p1) (q := -(p0 / p1)) (r := 0) h2.1).2 ⟨by rw [Int.mul_neg]; omega,by omega,h2.1⟩).1
   omega
  ·rw [bne_iff_ne.2 e,cond_true]
   have := ((Int.ediv_emod_unique (a := -p0) (b := p1) (q := -(p0 / p1) - 1) (r := p1 - p0 % p1) h2.1).2 ⟨by rw [Int.mul_sub,Int.mul_neg,Int.mul_one]; omega,by omega,by omega⟩).1
   omega
 unfold s_Zc t_Zc
 cases c:decide (p0.tmod p1 < 0) <;> rw [c] at hf <;> simp only [cond_true,cond_false] at hf ⊢ <;> rw [hf,w1,w2,hc] <;> cases (p0 / p1 * p1 != p0) <;> rfl

abbrev con_Zc:Con := ⟨P_Zc,R_Zc,fun x => qre_Zc x.1 x.2,fun x => t_Zc x.1 x.2⟩
theorem ok_Zc:ConOk Try.prog 68 con_Zc := okG k_Zc e_Zc hC_Zc fun x hx => tf_of (w_Zc_eq x.1 x.2 _) (d_Zc x.1 x.2 _ (pp_Zc x.1 x.2 hx) (tt_Zc x.1 x.2 hx))
def C_Zj:Cons := [(17,[],con_Z2)]
theorem hC_Zj:ConsOk Try.prog C_Zj := cC ok_Z2 <| ConsOk.nil
def w_Zj (p0:Int) (K:Bool→Prop):Prop := (K (s_Z2 p0 (-100000:Int) (100000:Int)))
theorem w_Zj_eq (p0:Int) (K:Bool→Prop):tfn F_Zj A_Zj C_Zj P_Zj R_Zj p0 K = w_Zj p0 K := by kernel_rfl
def s_Zj (p0:Int):Bool := (s_Z2 p0 (-100000:Int) (100000:Int))
abbrev pre_Zj (_p0:Int):List Prop := []
theorem d_Zj (p0:Int) (K:Bool→Prop) (_hp:∀ p∈pre_Zj p0,p) (h:K (s_Zj p0)):w_Zj p0 K := by
 unfold w_Zj
 unfold s_Zj at h
 exact h
abbrev con_Zj:Con := ⟨P_Zj,R_Zj,fun x => pre_Zj x,fun x => s_Zj x⟩
theorem ok_Zj:ConOk Try.prog 90 con_Zj := okG k_Zj e_Zj hC_Zj fun x hx => tf_of (w_Zj_eq x _) (d_Zj x _ hx rfl)
theorem tx_first2 {x y:Int}:v_first [x,y]=cond (x != 0) x y := by
 simp only [v_first]
 cases h:(x != 0)
 ·cases h2:(y != 0)
  ·simp at h2; subst h2; rfl
  ·rfl
 ·rfl
theorem tx_first1 {x y:Int} (h:(v_first [x,y] != 0)=false):x = 0∧y = 0 := by
 obtain ⟨h1,h2⟩ := v_first0 (bne0' h)
 exact ⟨h1,(v_first0 h2).1⟩
/-- Valid samples. -/
structure v_sok1 (q:Int×Int×Int×Int×Int):Prop where
 t:0≤q.1∧q.1≤1000000000000
 x : -10≤q.2.1∧q.2.1≤10
 y : -10≤q.2.2.1∧q.2.2.1≤10
 z : -10≤q.2.2.2.1∧q.2.2.2.1≤10
 v : -100000≤q.2.2.2.2∧q.2.2.2.2≤100000
structure v_smp (l:List (Int×Int×Int×Int×Int)):Prop where
 ne:l ≠ []
 len:l.length≤20
 ok:∀ x∈l,v_sok1 x
 asc:∀ k,0 < k→k < l.length→(l.getD (k - 1) (0,0,0,0,0)).1 < (l.getD k (0,0,0,0,0)).1
def C_Zl:Cons := []
theorem hC_Zl:ConsOk Try.prog C_Zl := ConsOk.nil
def w_Zl (p0:gF) (K:(List Int)→Prop):Prop := (((p0.length = 0) →(K ([]:List Int))) ∧(((((List.length ([]:List Int)) + p0.length) * 8)≤140737488355328) ∧(K (([]:List Int) ++ p0))))
theorem w_Zl_eq (p0:gF) (K:(List Int)→Prop):tfnO F_Zl A_Zl C_Zl P_Zl E_Zl p0 K = w_Zl p0 K := by kernel_rfl
def s_Zl (p0:gF):List Int := p0
abbrev pre_Zl (p0:gF):List Prop := [p0.length≤1000000]
theorem d_Zl (p0:gF) (K:List Int→Prop) (hp:∀ p∈pre_Zl p0,p) (h:K (s_Zl p0)):w_Zl p0 K := by
 have h1 := (conj_of hp).1
 refine ⟨fun e => ?_,by simp only [List.length_nil]; omega,h⟩
 have:p0 = [] := List.eq_nil_of_length_eq_zero e
 subst this; exact h

abbrev con_Zl:Con := ⟨P_Zl,[.one (.sl E_Zl)],fun x => pre_Zl x,fun x => s_Zl x⟩
theorem ok_Zl:ConOOk Try.prog 104 con_Zl := conO_tf (e := E_Zl) (ps := P_Zl) k_Zl e_Zl hC_Zl (fun x hx => tfo_of (w_Zl_eq x (fun z => z = s_Zl x)) (d_Zl x (fun z => z = s_Zl x) hx rfl))
def C_Z3:Cons := [(100,[],con_Zd),(86,[],con_Z9),(66,[],con_Zb),(71,[],con_Z4),(104,ownMark,con_Zl),(83,[],con_Zg),(68,[],con_Zc)]
theorem hC_Z3:ConsOk Try.prog C_Z3 := cC ok_Zd <| cC ok_Z9 <| cC ok_Zb <| cC ok_Z4 <| ConsOk.consO ok_Zl <| cC ok_Zg <| cC ok_Zc <| ConsOk.nil
abbrev q0_Z3 (p0:gF) (p1:Int) := ((v_serr p0) :: ((s_Zb (s_Z9 p1 zz0 (200000:Int)) zz2) :: ([]:List Int)))
def w_Z3 (p0:gF) (p1:Int) (K:((List Int)×((List Int)×Int))→Prop):Prop := ((lenOk p0) ∧((lenOk (q0_Z3 p0 p1)) ∧(((((v_first (q0_Z3 p0 p1)) != zz0)=true) →(K (([]:List Int),(([]:List Int),(v_first (q0_Z3 p0 p1)))))) ∧((((v_first (q0_Z3 p0 p1)) != zz0)=false) →((p0.length≤1000000) ∧(∃ n0,(loopP (fun (y1:(Int×((List Int)×(List Int)))) k2 => ((((decide ((wi (y1.1 + zz1)) < (p0.length:Int)))=true) →((zz0≤(wi (y1.1 - zz1))) ∧(((wi (y1.1 - zz1)) < (p0.length:Int)) ∧((zz0≤y1.1) ∧((y1.1 < (p0.length:Int)) ∧((zz0≤(wi (y1.1 + zz1))) ∧(((wi (y1.1 + zz1)) < (p0.length:Int)) ∧(((decide ((wi ((p0.getD y1.1.toNat zz0) - (max (p0.getD (Int.toNat (wi (y1.1 - zz1))) zz0) (p0.getD (Int.toNat (wi (y1.1 + zz1))) zz0)))) > p1))=(decide ((wi ((p0.getD y1.1.toNat zz0) - (max (p0.getD (Int.toNat (wi (y1.1 - zz1))) zz0) (p0.getD (Int.toNat (wi (y1.1 + zz1))) zz0)))) > p1))) ∧((((cond (decide ((wi ((p0.getD y1.1.toNat zz0) - (max (p0.getD (Int.toNat (wi (y1.1 - zz1))) zz0) (p0.getD (Int.toNat (wi (y1.1 + zz1))) zz0)))) > p1)) true (decide ((wi ((min (p0.getD (Int.toNat (wi (y1.1 - zz1))) zz0) (p0.getD (Int.toNat (wi (y1.1 + zz1))) zz0)) - (p0.getD y1.1.toNat zz0))) > p1)))=true) →((cond (decide ((wi ((p0.getD y1.1.toNat zz0) - (max (p0.getD (Int.toNat (wi (y1.1 - zz1))) zz0) (p0.getD (Int.toNat (wi (y1.1 + zz1))) zz0)))) > p1)) true (decide ((wi ((min (p0.getD (Int.toNat (wi (y1.1 - zz1))) zz0) (p0.getD (Int.toNat (wi (y1.1 + zz1))) zz0)) - (p0.getD y1.1.toNat zz0))) > p1)))=(cond (decide ((wi ((p0.getD y1.1.toNat zz0) - (max (p0.getD (Int.toNat (wi (y1.1 - zz1))) zz0) (p0.getD (Int.toNat (wi (y1.1 + zz1))) zz0)))) > p1)) true (decide ((wi ((min (p0.getD (Int.toNat (wi (y1.1 - zz1))) zz0) (p0.getD (Int.toNat (wi (y1.1 + zz1))) zz0)) - (p0.getD y1.1.toNat zz0))) > p1))))) ∧((((cond (decide ((wi ((p0.getD y1.1.toNat zz0) - (max (p0.getD (Int.toNat (wi (y1.1 - zz1))) zz0) (p0.getD (Int.toNat (wi (y1.1 + zz1))) zz0)))) > p1)) true (decide ((wi ((min (p0.getD (Int.toNat (wi (y1.1 - zz1))) zz0) (p0.getD (Int.toNat (wi (y1.1 + zz1))) zz0)) - (p0.getD y1.1.toNat zz0))) > p1)))=true) →((cond (decide ((wi ((p0.getD y1.1.toNat zz0) - (max (p0.getD (Int.toNat (wi (y1.1 - zz1))) zz0) (p0.getD (Int.toNat (wi (y1.1 + zz1))) zz0)))) > p1)) true (decide ((wi ((min (p0.getD (Int.toNat (wi (y1.1 - zz1))) zz0) (p0.getD (Int.toNat (wi (y1.1 + zz1))) zz0)) - (p0.getD y1.1.toNat zz0))) > p1)))=(cond (decide ((wi ((p0.getD y1.1.toNat zz0) - (max (p0.getD (Int.toNat (wi (y1.1 - zz1))) zz0) (p0.getD (Int.toNat (wi (y1.1 + zz1))) zz0)))) > p1)) true (decide ((wi ((min (p0.getD (Int.toNat (wi (y1.1 - zz1))) zz0) (p0.getD (Int.toNat (wi (y1.1 + zz1))) zz0)) - (p0.getD y1.1.toNat zz0))) > p1))))) ∧((((cond (decide ((wi ((p0.getD y1.1.toNat zz0) - (max (p0.getD (Int.toNat (wi (y1.1 - zz1))) zz0) (p0.getD (Int.toNat (wi (y1.1 + zz1))) zz0)))) > p1)) true (decide ((wi ((min (p0.getD (Int.toNat (wi (y1.1 - zz1))) zz0) (p0.getD (Int.toNat (wi (y1.1 + zz1))) zz0)) - (p0.getD y1.1.toNat zz0))) > p1)))=true) →((cond (decide ((wi ((p0.getD y1.1.toNat zz0) - (max (p0.getD (Int.toNat (wi (y1.1 - zz1))) zz0) (p0.getD (Int.toNat (wi (y1.1 + zz1))) zz0)))) > p1)) true (decide ((wi ((min (p0.getD (Int.toNat (wi (y1.1 - zz1))) zz0) (p0.getD (Int.toNat (wi (y1.1 + zz1))) zz0)) - (p0.getD y1.1.toNat zz0))) > p1)))=(cond (decide ((wi ((p0.getD y1.1.toNat zz0) - (max (p0.getD (Int.toNat (wi (y1.1 - zz1))) zz0) (p0.getD (Int.toNat (wi (y1.1 + zz1))) zz0)))) > p1)) true (decide ((wi ((min (p0.getD (Int.toNat (wi (y1.1 - zz1))) zz0) (p0.getD (Int.toNat (wi (y1.1 + zz1))) zz0)) - (p0.getD y1.1.toNat zz0))) > p1))))) ∧((((cond (decide ((wi ((p0.getD y1.1.toNat zz0) - (max (p0.getD (Int.toNat (wi (y1.1 - zz1))) zz0) (p0.getD (Int.toNat (wi (y1.1 + zz1))) zz0)))) > p1)) true (decide ((wi ((min (p0.getD (Int.toNat (wi (y1.1 - zz1))) zz0) (p0.getD (Int.toNat (wi (y1.1 + zz1))) zz0)) - (p0.getD y1.1.toNat zz0))) > p1)))=true) →((cond (decide ((wi ((p0.getD y1.1.toNat zz0) - (max (p0.getD (Int.toNat (wi (y1.1 - zz1))) zz0) (p0.getD (Int.toNat (wi (y1.1 + zz1))) zz0)))) > p1)) true (decide ((wi ((min (p0.getD (Int.toNat (wi (y1.1 - zz1))) zz0) (p0.getD (Int.toNat (wi (y1.1 + zz1))) zz0)) - (p0.getD y1.1.toNat zz0))) > p1)))=(cond (decide ((wi ((p0.getD y1.1.toNat zz0) - (max (p0.getD (Int.toNat (wi (y1.1 - zz1))) zz0) (p0.getD (Int.toNat (wi (y1.1 + zz1))) zz0)))) > p1)) true (decide ((wi ((min (p0.getD (Int.toNat (wi (y1.1 - zz1))) zz0) (p0.getD (Int.toNat (wi (y1.1 + zz1))) zz0)) - (p0.getD y1.1.toNat zz0))) > p1))))) ∧(((cond (decide ((wi ((p0.getD y1.1.toNat zz0) - (max (p0.getD (Int.toNat (wi (y1.1 - zz1))) zz0) (p0.getD (Int.toNat (wi (y1.1 + zz1))) zz0)))) > p1)) true (decide ((wi ((min (p0.getD (Int.toNat (wi (y1.1 - zz1))) zz0) (p0.getD (Int.toNat (wi (y1.1 + zz1))) zz0)) - (p0.getD y1.1.toNat zz0))) > p1)))=(cond (decide ((wi ((p0.getD y1.1.toNat zz0) - (max (p0.getD (Int.toNat (wi (y1.1 - zz1))) zz0) (p0.getD (Int.toNat (wi (y1.1 + zz1))) zz0)))) > p1)) true (decide ((wi ((min (p0.getD (Int.toNat (wi (y1.1 - zz1))) zz0) (p0.getD (Int.toNat (wi (y1.1 + zz1))) zz0)) - (p0.getD y1.1.toNat zz0))) > p1)))) ∧((((cond (cond (decide ((wi ((p0.getD y1.1.toNat zz0) - (max (p0.getD (Int.toNat (wi (y1.1 - zz1))) zz0) (p0.getD (Int.toNat (wi (y1.1 + zz1))) zz0)))) > p1)) true (decide ((wi ((min (p0.getD (Int.toNat (wi (y1.1 - zz1))) zz0) (p0.getD (Int.toNat (wi (y1.1 + zz1))) zz0)) - (p0.getD y1.1.toNat zz0))) > p1))) (s_Z9 (wi ((p0.getD (Int.toNat (wi (y1.1 - zz1))) zz0) - (p0.getD (Int.toNat (wi (y1.1 + zz1))) zz0))) (wi (zz0 - p1)) p1) false)=true) →((((y1.2.1.length + (List.length (y1.1 :: ([]:List Int)))) * 8)≤140737488355328) ∧((((-4611686018427387904:Int)≤(wi ((p0.getD (Int.toNat (wi (y1.1 - zz1))) zz0) + (p0.getD (Int.toNat (wi (y1.1 + zz1))) zz0)))) ∧((wi ((p0.getD (Int.toNat (wi (y1.1 - zz1))) zz0) + (p0.getD (Int.toNat (wi (y1.1 + zz1))) zz0)))≤4611686018427387904)) ∧(((zz0 < zz2) ∧(zz2≤4611686018427387904)) ∧((zz0≤y1.1) ∧((y1.1 < (y1.2.2.length:Int)) ∧(k2 ((wi (y1.1 + zz1)),((y1.2.1 ++ (y1.1 :: ([]:List Int))),(List.set y1.2.2 y1.1.toNat ((wi ((p0.getD (Int.toNat (wi (y1.1 - zz1))) zz0) + (p0.getD (Int.toNat (wi (y1.1 + zz1))) zz0))) / zz2))))))))))) ∧(((cond (cond (decide ((wi ((p0.getD y1.1.toNat zz0) - (max (p0.getD (Int.toNat (wi (y1.1 - zz1))) zz0) (p0.getD (Int.toNat (wi (y1.1 + zz1))) zz0)))) > p1)) true (decide ((wi ((min (p0.getD (Int.toNat (wi (y1.1 - zz1))) zz0) (p0.getD (Int.toNat (wi (y1.1 + zz1))) zz0)) - (p0.getD y1.1.toNat zz0))) > p1))) (s_Z9 (wi ((p0.getD (Int.toNat (wi (y1.1 - zz1))) zz0) - (p0.getD (Int.toNat (wi (y1.1 + zz1))) zz0))) (wi (zz0 - p1)) p1) false)=false) →(k2 ((wi (y1.1 + zz1)),y1.2))))))))))))))))) ∧(((decide ((wi (y1.1 + zz1)) < (p0.length:Int)))=false) →(K (y1.2.2,(y1.2.1,zz0)))))) n0 (zz1,(([]:List Int),p0)))))))))
theorem w_Z3_eq (p0:gF) (p1:Int) (K:((List Int)×((List Int)×Int))→Prop):tfn F_Z3 A_Z3 C_Z3 P_Z3 R_Z3 (p0,p1) K = w_Z3 p0 p1 K := by kernel_rfl
def st_Z3_0 (p0:gF) (p1:Int) (y1:(Int×((List Int)×(List Int)))):(Int×((List Int)×(List Int))) ⊕ ((List Int)×((List Int)×Int)) := (cond (decide ((IntKind.i64.wrap (y1.1 + 1)) < (p0.length:Int))) (cond (cond (cond (decide ((IntKind.i64.wrap ((p0.getD y1.1.toNat (0:Int)) - (max (p0.getD (Int.toNat (IntKind.i64.wrap (y1.1 - 1))) (0:Int)) (p0.getD (Int.toNat (IntKind.i64.wrap (y1.1 + 1))) (0:Int))))) > p1)) true (decide ((IntKind.i64.wrap ((min (p0.getD (Int.toNat (IntKind.i64.wrap (y1.1 - 1))) (0:Int)) (p0.getD (Int.toNat (IntKind.i64.wrap (y1.1 + 1))) (0:Int))) - (p0.getD y1.1.toNat (0:Int)))) > p1))) (s_Z9 (IntKind.i64.wrap ((p0.getD (Int.toNat (IntKind.i64.wrap (y1.1 - 1))) (0:Int)) - (p0.getD (Int.toNat (IntKind.i64.wrap (y1.1 + 1))) (0:Int)))) (IntKind.i64.wrap ((0:Int) - p1)) p1) false) (Sum.inl ((IntKind.i64.wrap (y1.1 + 1)),((y1.2.1 ++ (y1.1 :: ([]:List Int))),(List.set y1.2.2 y1.1.toNat ((IntKind.i64.wrap ((p0.getD (Int.toNat (IntKind.i64.wrap (y1.1 - 1))) (0:Int)) + (p0.getD (Int.toNat (IntKind.i64.wrap (y1.1 + 1))) (0:Int)))) / (2:Int)))))) (Sum.inl ((IntKind.i64.wrap (y1.1 + 1)),y1.2))) (Sum.inr (y1.2.2,(y1.2.1,(0:Int)))))
abbrev sp_Z3_0 (p0:gF) (p1:Int) (y1:(Int×((List Int)×(List Int)))):List Prop := [(((decide ((IntKind.i64.wrap (y1.1 + 1)) < (p0.length:Int)))=true)→((0:Int)≤(IntKind.i64.wrap (y1.1 - 1)))),(((decide ((IntKind.i64.wrap (y1.1 + 1)) < (p0.length:Int)))=true)→((IntKind.i64.wrap (y1.1 - 1)) < (p0.length:Int))),(((decide ((IntKind.i64.wrap (y1.1 + 1)) < (p0.length:Int)))=true)→((0:Int)≤y1.1)),(((decide ((IntKind.i64.wrap (y1.1 + 1)) < (p0.length:Int)))=true)→(y1.1 < (p0.length:Int))),(((decide ((IntKind.i64.wrap (y1.1 + 1)) < (p0.length:Int)))=true)→((0:Int)≤(IntKind.i64.wrap (y1.1 + 1)))),(((decide ((IntKind.i64.wrap (y1.1 + 1)) < (p0.length:Int)))=true)→((IntKind.i64.wrap (y1.1 + 1)) < (p0.length:Int))),(((decide ((IntKind.i64.wrap (y1.1 + 1)) < (p0.length:Int)))=true)→(((cond (cond (decide ((IntKind.i64.wrap ((p0.getD y1.1.toNat (0:Int)) - (max (p0.getD (Int.toNat (IntKind.i64.wrap (y1.1 - 1))) (0:Int)) (p0.getD (Int.toNat (IntKind.i64.wrap (y1.1 + 1))) (0:Int))))) > p1)) true (decide ((IntKind.i64.wrap ((min (p0.getD (Int.toNat (IntKind.i64.wrap (y1.1 - 1))) (0:Int)) (p0.getD (Int.toNat (IntKind.i64.wrap (y1.1 + 1))) (0:Int))) - (p0.getD y1.1.toNat (0:Int)))) > p1))) (s_Z9 (IntKind.i64.wrap ((p0.getD (Int.toNat (IntKind.i64.wrap (y1.1 - 1))) (0:Int)) - (p0.getD (Int.toNat (IntKind.i64.wrap (y1.1 + 1))) (0:Int)))) (IntKind.i64.wrap ((0:Int) - p1)) p1) false)=true)→(((y1.2.1.length + (List.length (y1.1 :: ([]:List Int)))) * 8)≤140737488355328))),(((decide ((IntKind.i64.wrap (y1.1 + 1)) < (p0.length:Int)))=true)→(((cond (cond (decide ((IntKind.i64.wrap ((p0.getD y1.1.toNat (0:Int)) - (max (p0.getD (Int.toNat (IntKind.i64.wrap (y1.1 - 1))) (0:Int)) (p0.getD (Int.toNat (IntKind.i64.wrap (y1.1 + 1))) (0:Int))))) > p1)) true (decide ((IntKind.i64.wrap ((min (p0.getD (Int.toNat (IntKind.i64.wrap (y1.1 - 1))) (0:Int)) (p0.getD (Int.toNat (IntKind.i64.wrap (y1.1 + 1))) (0:Int))) - (p0.getD y1.1.toNat (0:Int)))) > p1))) (s_Z9 (IntKind.i64.wrap ((p0.getD (Int.toNat (IntKind.i64.wrap (y1.1 - 1))) (0:Int)) - (p0.getD (Int.toNat (IntKind.i64.wrap (y1.1 + 1))) (0:Int)))) (IntKind.i64.wrap ((0:Int) - p1)) p1) false)=true)→(((-4611686018427387904:Int)≤(IntKind.i64.wrap ((p0.getD (Int.toNat (IntKind.i64.wrap (y1.1 - 1))) (0:Int)) + (p0.getD (Int.toNat (IntKind.i64.wrap (y1.1 + 1))) (0:Int)))))∧((IntKind.i64.wrap ((p0.getD (Int.toNat (IntKind.i64.wrap (y1.1 - 1))) (0:Int)) + (p0.getD (Int.toNat (IntKind.i64.wrap (y1.1 + 1))) (0:Int))))≤4611686018427387904)))),(((decide ((IntKind.i64.wrap (y1.1 + 1)) < (p0.length:Int)))=true)→(((cond (cond (decide ((IntKind.i64.wrap ((p0.getD y1.1.toNat (0:Int)) - (max (p0.getD (Int.toNat (IntKind.i64.wrap (y1.1 - 1))) (0:Int)) (p0.getD (Int.toNat (IntKind.i64.wrap (y1.1 + 1))) (0:Int))))) > p1)) true (decide ((IntKind.i64.wrap ((min (p0.getD (Int.toNat (IntKind.i64.wrap (y1.1 - 1))) (0:Int)) (p0.getD (Int.toNat (IntKind.i64.wrap (y1.1 + 1))) (0:Int))) - (p0.getD y1.1.toNat (0:Int)))) > p1))) (s_Z9 (IntKind.i64.wrap ((p0.getD (Int.toNat (IntKind.i64.wrap (y1.1 - 1))) (0:Int)) - (p0.getD (Int.toNat (IntKind.i64.wrap (y1.1 + 1))) (0:Int)))) (IntKind.i64.wrap ((0:Int) - p1)) p1) false)=true)→((0:Int)≤y1.1))),(((decide ((IntKind.i64.wrap (y1.1 + 1)) < (p0.length:Int)))=true)→(((cond (cond (decide ((IntKind.i64.wrap ((p0.getD y1.1.toNat (0:Int)) - (max (p0.getD (Int.toNat (IntKind.i64.wrap (y1.1 - 1))) (0:Int)) (p0.getD (Int.toNat (IntKind.i64.wrap (y1.1 + 1))) (0:Int))))) > p1)) true (decide ((IntKind.i64.wrap ((min (p0.getD (Int.toNat (IntKind.i64.wrap (y1.1 - 1))) (0:Int)) (p0.getD (Int.toNat (IntKind.i64.wrap (y1.1 + 1))) (0:Int))) - (p0.getD y1.1.toNat (0:Int)))) > p1))) (s_Z9 (IntKind.i64.wrap ((p0.getD (Int.toNat (IntKind.i64.wrap (y1.1 - 1))) (0:Int)) - (p0.getD (Int.toNat (IntKind.i64.wrap (y1.1 + 1))) (0:Int)))) (IntKind.i64.wrap ((0:Int) - p1)) p1) false)=true)→(y1.1 < (y1.2.2.length:Int))))]
def s_Z3 (p0:gF) (p1:Int):((List Int)×((List Int)×Int)) := (cond ((v_first ((v_serr p0) :: ((s_Zb (s_Z9 p1 (0:Int) (200000:Int)) (2:Int)) :: ([]:List Int)))) != 0) (([]:List Int),(([]:List Int),(v_first ((v_serr p0) :: ((s_Zb (s_Z9 p1 (0:Int) (200000:Int)) (2:Int)) :: ([]:List Int)))))) (lpv ([],([],(0:Int))) (st_Z3_0 p0 p1) ((1:Int),(([]:List Int),p0))))
abbrev pre_Z3 (p0:gF) (p1:Int):List Prop := [(lenOk p0),((((v_first ((v_serr p0) :: ((s_Zb (s_Z9 p1 (0:Int) (200000:Int)) (2:Int)) :: ([]:List Int)))) != 0)=false)→(p0.length≤1000000)),((((v_first ((v_serr p0) :: ((s_Zb (s_Z9 p1 (0:Int) (200000:Int)) (2:Int)) :: ([]:List Int)))) != 0)=false)→(OkL (st_Z3_0 p0 p1) (sp_Z3_0 p0 p1) ((1:Int),(([]:List Int),p0))))]
theorem d_Z3 (p0:gF) (p1:Int) (K:((List Int)×((List Int)×Int))→Prop) (hp:∀ p∈pre_Z3 p0 p1,p) (h:K (s_Z3 p0 p1)):w_Z3 p0 p1 K := by
 unfold w_Z3
 unfold s_Z3 at h
 obtain ⟨hp0,hp1,hp2,_⟩ := conj_of hp
 exact ⟨(hp0),(lenOk_of 2 rfl (by decide)),(br' h (fun e0 h => h)
  (fun e0 h => ⟨(hp1 e0),(loop_gen (hp2 e0) h (fun y1 k1 hp h => by
 unfold st_Z3_0 at h; obtain ⟨hp0,hp1,hp2,hp3,hp4,hp5,hp6,hp7,hp8,hp9,_⟩ := conj_of hp
 exact (br' h (fun e2 h => ⟨(hp0 e2),(hp1 e2),(hp2 e2),(hp3 e2),(hp4 e2),(hp5 e2),rfl,rf,rf,rf,rf,rfl,(br' h (fun e3 h => ⟨(hp6 e2 e3),(hp7 e2 e3),(od rfl),(hp8 e2 e3),(hp9 e2 e3),h⟩)
  (fun e3 h => h))⟩)
  (fun e2 h => h))))⟩))⟩
/-- Some of the numbers of a list. -/
def v_sel (p:Nat→Bool):List Nat→List Int
 | [] => []
 | i :: r => cond (p i) ((i:Int) :: v_sel p r) (v_sel p r)
theorem v_sel_mem {p:Nat→Bool}:∀ {l:List Nat} {x:Int},x∈v_sel p l ↔ ∃ i∈l,p i = true∧x = (i:Int)
 | [],x => by simp [v_sel]
 | i :: r,x => by
  have ih := v_sel_mem (p := p) (l := r) (x := x)
  have e:v_sel p (i :: r)=cond (p i) ((i:Int) :: v_sel p r) (v_sel p r) := rfl
  rw [e]
  cases hp:p i
  ·rw [cond_false,ih]
   constructor
   ·rintro ⟨k,hk,h1,h2⟩; exact ⟨k,List.mem_cons_of_mem _ hk,h1,h2⟩
   ·rintro ⟨k,hk,h1,h2⟩
    rcases List.mem_cons.1 hk with rfl | hk
    ·rw [hp] at h1; cases h1
    ·exact ⟨k,hk,h1,h2⟩
  ·rw [cond_true,List.mem_cons,ih]
   constructor
   ·rintro (rfl | ⟨k,hk,h1,h2⟩)
    ·exact ⟨i,by simp,hp,rfl⟩
    ·exact ⟨k,List.mem_cons_of_mem _ hk,h1,h2⟩
   ·rintro ⟨k,hk,h1,h2⟩
    rcases List.mem_cons.1 hk with rfl | hk
    ·exact .inl h2
    ·exact .inr ⟨k,hk,h1,h2⟩
theorem v_sel_len (p:Nat→Bool):∀ (l:List Nat),(v_sel p l).length≤l.length
 | [] => Nat.le_refl _
 | i :: r => by
  have e:v_sel p (i :: r)=cond (p i) ((i:Int) :: v_sel p r) (v_sel p r) := rfl
  have := v_sel_len p r
  rw [e]
  cases p i
  ·rw [cond_false,List.length_cons]; omega
  ·rw [cond_true,List.length_cons,List.length_cons]; omega
theorem v_sel_snoc (p:Nat→Bool):∀ (l:List Nat) (i:Nat),v_sel p (l ++ [i])=v_sel p l ++ cond (p i) [(i:Int)] []
 | [],_ => rfl
 | k :: r,i => by
  have ih := v_sel_snoc p r i
  show cond (p k) ((k:Int) :: v_sel p (r ++ [i])) (v_sel p (r ++ [i]))=cond (p k) ((k:Int) :: v_sel p r) (v_sel p r) ++ _
  rw [ih]
  cases p k <;> rfl
/-- Whether there is a spike; the spikes; the series without them. -/
def v_spk (l:gF) (m:Int) (i:Nat):Bool := cond (cond (decide (l.getD i 0 - max (l.getD (i - 1) 0) (l.getD (i + 1) 0) > m)) true (decide (min (l.getD (i - 1) 0) (l.getD (i + 1) 0) - l.getD i 0 > m))) (s_Z2 (l.getD (i - 1) 0 - l.getD (i + 1) 0) (-m) m) false
def v_spks (l:gF) (m:Int):List Int := v_sel (v_spk l m) (List.range' 1 (l.length - 2))
def v_dk (l:gF) (m:Int) (k:Nat):Int := cond (decide ((k:Int)∈v_spks l m)) ((l.getD (k - 1) 0 + l.getD (k + 1) 0) / 2) (l.getD k 0)
def v_dsp (l:gF) (m:Int):List Int := (List.range l.length).map (v_dk l m)
theorem v_spks_mem {l:List Int} {m:Int} {x:Int}:x∈v_spks l m ↔ ∃ i:Nat,(1≤i∧i + 1 < l.length)∧v_spk l m i = true∧x = (i:Int) := by
 unfold v_spks
 rw [v_sel_mem]
 constructor
 ·rintro ⟨i,hi,h1,h2⟩
  have := List.mem_range'.1 hi
  exact ⟨i,by omega,h1,h2⟩
 ·rintro ⟨i,hi,h1,h2⟩
  exact ⟨i,List.mem_range'.2 ⟨i - 1,by omega,by omega⟩,h1,h2⟩
theorem v_dk_at {l:List Int} {m:Int} {k:Nat} (h1:1≤k) (h2:k + 1 < l.length):v_dk l m k = cond (v_spk l m k) ((l.getD (k - 1) 0 + l.getD (k + 1) 0) / 2) (l.getD k 0) := by
 unfold v_dk
 cases c:v_spk l m k
 ·rw [decide_eq_false (fun h => by
   obtain ⟨i,_,h4,h5⟩ := v_spks_mem.1 h
   have:i = k := by omega
   subst this; rw [c] at h4; cases h4)]
 ·rw [decide_eq_true (v_spks_mem.2 ⟨k,⟨h1,h2⟩,c,rfl⟩)]
theorem v_dk_out {l:List Int} {m:Int} {k:Nat} (h:¬ (1≤k∧k + 1 < l.length)):v_dk l m k = l.getD k 0 := by
 unfold v_dk
 rw [decide_eq_false (fun hm => by
  obtain ⟨i,h3,_,h5⟩ := v_spks_mem.1 hm
  have:i = k := by omega
  subst this; exact h h3)]; rfl
theorem v_dsp_len (l:gF) (m:Int):(v_dsp l m).length = l.length := by unfold v_dsp; simp
theorem v_dsp_get {l:List Int} {m:Int} {k:Nat} (hk:k < l.length):(v_dsp l m).getD k 0 = v_dk l m k := by
 unfold v_dsp
 rw [List.getD_eq_getElem?_getD,List.getElem?_map,List.getElem?_range hk]; rfl
theorem v_spks_len (l:gF) (m:Int):(v_spks l m).length≤l.length := by
 have := v_sel_len (v_spk l m) (List.range' 1 (l.length - 2))
 rw [List.length_range'] at this
 unfold v_spks
 omega
def v_desp (l:gF) (m:Int):List Int×List Int×Int := cond (v_serr l != 0) ([],[],v_serr l) (cond (s_Z2 m 0 200000) (v_dsp l m,v_spks l m,0) ([],[],2))
theorem l_Z3_0 (p0:gF) (p1:Int) (h:v_ser p0) (hm:0≤p1∧p1≤200000):OkL (st_Z3_0 p0 p1) (sp_Z3_0 p0 p1) (1,[],p0)∧lpv ([],[],0) (st_Z3_0 p0 p1) (1,[],p0)=(v_dsp p0 p1,v_spks p0 p1,0) := by
 have hl := h.len
 have hne := h.ne
 have main := @for_is (List Int×List Int) (Int×List Int×List Int) (List Int×List Int×Int) ([],[],0) (st_Z3_0 p0 p1) (sp_Z3_0 p0 p1) (fun i t => (i,t)) 1 (max 1 (p0.length - 1)) (fun j t => t.1 = v_sel (v_spk p0 p1) (List.range' 1 (j - 1))∧t.2.length = p0.length∧(∀ k,k < j→k < p0.length→t.2.getD k 0 = v_dk p0 p1 k)∧∀ k,j≤k→t.2.getD k 0 = p0.getD k 0) (fun _ _ => (v_dsp p0 p1,v_spks p0 p1,0)) (by omega) (by omega) ?_ ?_ ([],p0) ⟨rfl,rfl,fun k hk _ => ?_,fun _ _ => rfl⟩
 ·exact main
 ·rintro ⟨t1,t2⟩ ⟨h1,h2,h3,h4⟩
  simp only at h1 h2 h3 h4
  have hw:IntKind.i64.wrap (((max 1 (p0.length - 1):Nat):Int) + 1)=((max 1 (p0.length - 1):Nat):Int) + 1 := wrap_id (by omega) (by omega)
  have hd:decide (((max 1 (p0.length - 1):Nat):Int) + 1 < (p0.length:Int))=false := decide_eq_false (by omega)
  have e1:t1 = v_spks p0 p1 := by rw [h1]; unfold v_spks; congr 2; omega
  have e2:t2 = v_dsp p0 p1 := gd_ext 0 (by rw [v_dsp_len,h2]) fun k hk => by
   rw [v_dsp_get (by omega)]
   rcases Nat.lt_or_ge k (max 1 (p0.length - 1)) with g | g
   ·exact h3 k g (by omega)
   ·rw [h4 k g,v_dk_out (by omega)]
  simp only [sp_Z3_0,st_Z3_0,fM,hw,hd,cond_false]
  refine ⟨?_,by rw [e1,e2]⟩
  and_intros
  all_goals first
   | (intro h; cases h; done)
   | (intro p hp; cases hp)
 ·rintro j ⟨t1,t2⟩ h0 hj ⟨h1,h2,h3,h4⟩
  simp only at h1 h2 h3 h4
  have hw1:IntKind.i64.wrap ((j:Int) + 1)=((j + 1:Nat):Int) := wrap_id (by omega) (by omega)
  have hw2:IntKind.i64.wrap ((j:Int) - 1)=((j - 1:Nat):Int) := by rw [wrap_id (by omega) (by omega)]; omega
  have hd:decide (((j + 1:Nat):Int) < (p0.length:Int))=true := decide_eq_true (by omega)
  have ga := v_ser_get h (show j - 1 < p0.length by omega)
  have gn := v_ser_get h (show j < p0.length by omega)
  have gb := v_ser_get h (show j + 1 < p0.length by omega)
  have hsn:v_sel (v_spk p0 p1) (List.range' 1 (j + 1 - 1))=v_sel (v_spk p0 p1) (List.range' 1 (j - 1)) ++ cond (v_spk p0 p1 j) [(j:Int)] [] := by
   have:List.range' 1 (j + 1 - 1)=List.range' 1 (j - 1) ++ [j] := by
    rw [show j + 1 - 1 = (j - 1) + 1 by omega,List.range'_concat]; congr 2; omega
   rw [this,v_sel_snoc]
  have hlen := v_sel_len (v_spk p0 p1) (List.range' 1 (j - 1))
  rw [List.length_range',← h1] at hlen
  have hat := v_dk_at (l := p0) (m := p1) h0 (show j + 1 < p0.length by omega)
  have hspk:v_spk p0 p1 j = v_spk p0 p1 j := rfl
  conv at hspk => { rhs; unfold v_spk }
  simp only [sp_Z3_0,st_Z3_0,fM,hw1,hw2,hd,cond_true,Int.toNat_natCast,tx_withinG]
  generalize p0.getD (j - 1) 0 = a at *
  generalize hn:p0.getD j 0 = n at *
  generalize p0.getD (j + 1) 0 = b at *
  have w1:IntKind.i64.wrap (n - max a b)=n - max a b := wrap_id (by omega) (by omega)
  have w2:IntKind.i64.wrap (min a b - n)=min a b - n := wrap_id (by omega) (by omega)
  have w3:IntKind.i64.wrap (a - b)=a - b := wrap_id (by omega) (by omega)
  have w4:IntKind.i64.wrap (0 - p1) = -p1 := by rw [wrap_id (by omega) (by omega)]; omega
  have w5:IntKind.i64.wrap (a + b)=a + b := wrap_id (by omega) (by omega)
  simp only [w1,w2,w3,w4,w5]
  generalize cond (cond (decide (n - max a b > p1)) true (decide (min a b - n > p1))) (s_Z2 (a - b) (-p1) p1) false = c at *
  rw [hspk] at hsn hat
  have hjt:j < t2.length := by omega
  refine ⟨?_,?_⟩
  ·and_intros
   all_goals first
    | (intro p hp; cases hp; done)
    | (intros; simp only [List.length_cons,List.length_nil]; omega)
    | (intros; omega)
  ·cases c
   ·refine .inl ⟨(t1,t2),rfl,⟨by rw [hsn,← h1]; simp,h2,fun k hk hk2 => ?_,fun k hk => h4 k (by omega)⟩,trivial⟩
    rcases Nat.lt_or_ge k j with g | g
    ·exact h3 k g hk2
    ·obtain rfl:k = j := by omega
     show t2.getD k 0 = _
     rw [h4 k (Nat.le_refl _),hat,hn]; rfl
   ·refine .inl ⟨(t1 ++ [(j:Int)],t2.set j ((a + b) / 2)),rfl,⟨by rw [hsn,← h1]; rfl,by show (t2.set j _).length = _; rw [List.length_set]; exact h2,fun k hk hk2 => ?_,fun k hk => ?_⟩,trivial⟩
    ·show (t2.set j ((a + b) / 2)).getD k 0 = _
     rw [gd_set hjt]
     split
     ·rename_i e; subst e; rw [hat]; rfl
     ·exact h3 k (by omega) hk2
    ·show (t2.set j ((a + b) / 2)).getD k 0 = _
     rw [gd_set hjt,if_neg (by omega)]; exact h4 k (by omega)
 ·obtain rfl:k = 0 := by omega
  rw [v_dk_out (by omega)]
abbrev t_Z3 (p0:gF) (p1:Int):List Int×List Int×Int := v_desp p0 p1
abbrev qre_Z3 (p0:gF) (_p1:Int):List Prop := [lenOk p0]
theorem pp_Z3 (p0:gF) (p1:Int) (hq:∀ p∈qre_Z3 p0 p1,p):∀ p∈pre_Z3 p0 p1,p := by
 obtain ⟨h1,_⟩ := conj_of hq
 simp only [pre_Z3,fM]
 refine ⟨h1,fun h => ?_,fun h => ?_,by simp⟩
 ·have := (v_serr_ok (tx_first1 h).1).len; omega
 ·exact (l_Z3_0 p0 p1 (v_serr_ok (tx_first1 h).1) (tx_within.1 (tx_withinG ▸ tx_unless0 (by decide) (tx_first1 h).2))).1
theorem tt_Z3 (p0:gF) (p1:Int) (_hq:∀ p∈qre_Z3 p0 p1,p):s_Z3 p0 p1 = t_Z3 p0 p1 := by
 unfold s_Z3 t_Z3 v_desp
 rw [tx_first2]
 rcases int0 (v_serr p0) with ⟨z,e,_⟩ | ⟨z,e,_⟩ <;> rw [e]
 ·rw [cond_false,tx_withinG,tx_unless]
  cases c:s_Z2 p1 0 200000
  ·rfl
  ·exact (l_Z3_0 p0 p1 (v_serr_ok z) (tx_within.1 c)).2
 ·rw [cond_true,e]; rfl

abbrev con_Z3:Con := ⟨P_Z3,R_Z3,fun x => qre_Z3 x.1 x.2,fun x => t_Z3 x.1 x.2⟩
theorem ok_Z3:ConOk Try.prog 53 con_Z3 := okG k_Z3 e_Z3 hC_Z3 fun x hx => tf_of (w_Z3_eq x.1 x.2 _) (d_Z3 x.1 x.2 _ (pp_Z3 x.1 x.2 hx) (tt_Z3 x.1 x.2 hx))
def C_Z7:Cons := [(90,[],con_Zj)]
theorem hC_Z7:ConsOk Try.prog C_Z7 := cC ok_Zj <| ConsOk.nil
def w_Z7 (p0:gF) (K:Int→Prop):Prop := (((((p0.length:Int) == 0)=true) →(K (10:Int))) ∧((((p0.length:Int) == 0)=false) →((((decide ((p0.length:Int) > 40))=true) →(K (8:Int))) ∧(((decide ((p0.length:Int) > 40))=false) →(∃ n0,(loopP (fun (y1:Int) k2 => ((((decide (y1 < (p0.length:Int)))=true) →((zz0≤y1) ∧((y1 < (p0.length:Int)) ∧((((!(s_Z2 (p0.getD y1.toNat zz0) (-100000:Int) (100000:Int)))=true) →(K (2:Int))) ∧(((!(s_Z2 (p0.getD y1.toNat zz0) (-100000:Int) (100000:Int)))=false) →(k2 (IntKind.i64.wrap (y1 + 1)))))))) ∧(((decide (y1 < (p0.length:Int)))=false) →(K zz0)))) n0 zz0))))))
theorem w_Z7_eq (p0:gF) (K:Int→Prop):tfn F_Z7 A_Z7 C_Z7 P_Z7 R_Z7 p0 K = w_Z7 p0 K := by kernel_rfl
def st_Z7_0 (p0:gF) (y2:Int):Int ⊕ Int := (cond (decide (y2 < (p0.length:Int))) (cond (!(s_Z2 (p0.getD y2.toNat (0:Int)) (-100000:Int) (100000:Int))) (Sum.inr (2:Int)) (Sum.inl (IntKind.i64.wrap (y2 + 1)))) (Sum.inr (0:Int)))
abbrev sp_Z7_0 (p0:gF) (y2:Int):List Prop := [(((decide (y2 < (p0.length:Int)))=true)→((0:Int)≤y2)),(((decide (y2 < (p0.length:Int)))=true)→(y2 < (p0.length:Int)))]
def s_Z7 (p0:gF):Int := (cond ((p0.length:Int) == 0) (10:Int) (cond (decide ((p0.length:Int) > 40)) (8:Int) (lpv (0:Int) (st_Z7_0 p0) (0:Int))))
abbrev pre_Z7 (p0:gF):List Prop := [((((p0.length:Int) == 0)=false)→(((decide ((p0.length:Int) > 40))=false)→(OkL (st_Z7_0 p0) (sp_Z7_0 p0) (0:Int))))]
theorem d_Z7 (p0:gF) (K:Int→Prop) (hp:∀ p∈pre_Z7 p0,p) (h:K (s_Z7 p0)):w_Z7 p0 K := by
 unfold w_Z7
 unfold s_Z7 at h
 obtain ⟨hp0,_⟩ := conj_of hp
 exact (br' h (fun e0 h => h)
  (fun e0 h => (br' h (fun e1 h => h)
  (fun e1 h => (loop_gen (hp0 e0 e1) h (fun y2 k2 hp h => by
 unfold st_Z7_0 at h; obtain ⟨hp0,hp1,_⟩ := conj_of hp
 exact (br' h (fun e3 h => ⟨(hp0 e3),(hp1 e3),(br' h (fun e4 h => h)
  (fun e4 h => h))⟩)
  (fun e3 h => h))))))))
theorem l_Z7_0 (p0:gF) (hl:lenOk p0):OkL (st_Z7_0 p0) (sp_Z7_0 p0) 0∧lpv (0:Int) (st_Z7_0 p0) 0 = v_scan (fun _ x => cond (!(v_val x)) (some 2) none) 0 0 p0 := by
 refine scan_is p0 0 (fun _ x => cond (!(v_val x)) (some 2) none) 0 hl ?_ ?_
 ·refine ⟨by simp only [sp_Z7_0,fM,decide_eq_true_eq]; simp,by simp [st_Z7_0]⟩
 ·intro j hj
  have hj' : (j:Int) < p0.length := by omega
  refine ⟨by simp only [sp_Z7_0,fM,decide_eq_true_eq,Int.toNat_natCast]; simp <;> omega,?_⟩
  simp only [st_Z7_0,hj',decide_true,Int.toNat_natCast,cond_true,wrap_nat (show (j:Int)≤9223372036854775806 by unfold lenOk at hl; omega)]
  have e:s_Z2 (p0.getD j 0) (-100000) 100000 = v_val (p0.getD j 0) := rfl
  rw [e]
  cases v_val (p0.getD j 0) <;> rfl
abbrev t_Z7 (p0:gF):Int := v_serr p0
abbrev qre_Z7 (_p0:gF):List Prop := []
theorem pp_Z7 (p0:gF) (_hq:∀ p∈qre_Z7 p0,p):∀ p∈pre_Z7 p0,p := by
 simp only [pre_Z7,fM]
 exact ⟨fun _ h => (l_Z7_0 p0 (lenOk_le (n := 40) (by have := of_decide_eq_false h; omega) (by decide))).1,by simp⟩
theorem tt_Z7 (p0:gF) (_hq:∀ p∈qre_Z7 p0,p):s_Z7 p0 = t_Z7 p0 := by
 unfold s_Z7 t_Z7 v_serr
 cases h:decide ((p0.length:Int) > 40)
 ·rw [(l_Z7_0 p0 (lenOk_le (n := 40) (by have := of_decide_eq_false h; omega) (by decide))).2,v_scan_any,show p0.any (fun x => !(v_val x)) = !(p0.all v_val) by rw [List.not_all_eq_any_not]]
  cases p0.all v_val <;> rfl
 ·rfl

abbrev con_Z7:Con := ⟨P_Z7,R_Z7,fun x => qre_Z7 x,fun x => t_Z7 x⟩
theorem ok_Z7:ConOk Try.prog 48 con_Z7 := okG k_Z7 e_Z7 hC_Z7 fun x hx => tf_of (w_Z7_eq x _) (d_Z7 x _ (pp_Z7 x hx) (tt_Z7 x hx))
def C_Z1:Cons := []
theorem hC_Z1:ConsOk Try.prog C_Z1 := ConsOk.nil
def w_Z1 (p0:Int) (K:Int→Prop):Prop := (K (max p0 (IntKind.i64.wrap (zz0 - p0))))
theorem w_Z1_eq (p0:Int) (K:Int→Prop):tfn F_Z1 A_Z1 C_Z1 P_Z1 R_Z1 p0 K = w_Z1 p0 K := by kernel_rfl
def s_Z1 (p0:Int):Int := (max p0 (IntKind.i64.wrap ((0:Int) - p0)))
abbrev pre_Z1 (_p0:Int):List Prop := []
theorem d_Z1 (p0:Int) (K:Int→Prop) (_hp:∀ p∈pre_Z1 p0,p) (h:K (s_Z1 p0)):w_Z1 p0 K := by
 unfold w_Z1
 unfold s_Z1 at h
 exact h
abbrev con_Z1:Con := ⟨P_Z1,R_Z1,fun x => pre_Z1 x,fun x => s_Z1 x⟩
theorem ok_Z1:ConOk Try.prog 95 con_Z1 := okG k_Z1 e_Z1 hC_Z1 fun x hx => tf_of (w_Z1_eq x _) (d_Z1 x _ hx rfl)
def C_Z5:Cons := [(95,[],con_Z1)]
theorem hC_Z5:ConsOk Try.prog C_Z5 := cC ok_Z1 <| ConsOk.nil
def w_Z5 (p0:gF) (p1:Int) (K:(List Int)→Prop):Prop := (∃ n0,(loopP (fun (y1:gE) k2 => ((((decide ((IntKind.i64.wrap (y1.1 + 1)) < (p0.length:Int)))=true) →((zz0≤y1.1) ∧((y1.1 < (p0.length:Int)) ∧((zz0≤(IntKind.i64.wrap (y1.1 - 1))) ∧(((IntKind.i64.wrap (y1.1 - 1)) < (p0.length:Int)) ∧((zz0≤y1.1) ∧((y1.1 < (p0.length:Int)) ∧((zz0≤(IntKind.i64.wrap (y1.1 + 1))) ∧(((IntKind.i64.wrap (y1.1 + 1)) < (p0.length:Int)) ∧((zz0≤(IntKind.i64.wrap (y1.1 - 1))) ∧(((IntKind.i64.wrap (y1.1 - 1)) < (p0.length:Int)) ∧((zz0≤(IntKind.i64.wrap (y1.1 + 1))) ∧(((IntKind.i64.wrap (y1.1 + 1)) < (p0.length:Int)) ∧((((decide ((s_Z1 (IntKind.i64.wrap ((p0.getD (Int.toNat (IntKind.i64.wrap (y1.1 - 1))) zz0) - (p0.getD (Int.toNat (IntKind.i64.wrap (y1.1 + 1))) zz0))))≤p1))=true) →((decide ((s_Z1 (IntKind.i64.wrap ((p0.getD (Int.toNat (IntKind.i64.wrap (y1.1 - 1))) zz0) - (p0.getD (Int.toNat (IntKind.i64.wrap (y1.1 + 1))) zz0))))≤p1))=(decide ((s_Z1 (IntKind.i64.wrap ((p0.getD (Int.toNat (IntKind.i64.wrap (y1.1 - 1))) zz0) - (p0.getD (Int.toNat (IntKind.i64.wrap (y1.1 + 1))) zz0))))≤p1)))) ∧((((decide ((s_Z1 (IntKind.i64.wrap ((p0.getD (Int.toNat (IntKind.i64.wrap (y1.1 - 1))) zz0) - (p0.getD (Int.toNat (IntKind.i64.wrap (y1.1 + 1))) zz0))))≤p1))=true) →((decide ((s_Z1 (IntKind.i64.wrap ((p0.getD (Int.toNat (IntKind.i64.wrap (y1.1 - 1))) zz0) - (p0.getD (Int.toNat (IntKind.i64.wrap (y1.1 + 1))) zz0))))≤p1))=(decide ((s_Z1 (IntKind.i64.wrap ((p0.getD (Int.toNat (IntKind.i64.wrap (y1.1 - 1))) zz0) - (p0.getD (Int.toNat (IntKind.i64.wrap (y1.1 + 1))) zz0))))≤p1)))) ∧((((decide ((s_Z1 (IntKind.i64.wrap ((p0.getD (Int.toNat (IntKind.i64.wrap (y1.1 - 1))) zz0) - (p0.getD (Int.toNat (IntKind.i64.wrap (y1.1 + 1))) zz0))))≤p1))=true) →((decide ((s_Z1 (IntKind.i64.wrap ((p0.getD (Int.toNat (IntKind.i64.wrap (y1.1 - 1))) zz0) - (p0.getD (Int.toNat (IntKind.i64.wrap (y1.1 + 1))) zz0))))≤p1))=(decide ((s_Z1 (IntKind.i64.wrap ((p0.getD (Int.toNat (IntKind.i64.wrap (y1.1 - 1))) zz0) - (p0.getD (Int.toNat (IntKind.i64.wrap (y1.1 + 1))) zz0))))≤p1)))) ∧(((((decide ((s_Z1 (IntKind.i64.wrap ((p0.getD (Int.toNat (IntKind.i64.wrap (y1.1 - 1))) zz0) - (p0.getD (Int.toNat (IntKind.i64.wrap (y1.1 + 1))) zz0))))≤p1)) && (decide ((IntKind.i64.wrap ((p0.getD y1.1.toNat zz0) - (p0.getD (Int.toNat (IntKind.i64.wrap (y1.1 - 1))) zz0))) > p1)))=true) →(((decide ((s_Z1 (IntKind.i64.wrap ((p0.getD (Int.toNat (IntKind.i64.wrap (y1.1 - 1))) zz0) - (p0.getD (Int.toNat (IntKind.i64.wrap (y1.1 + 1))) zz0))))≤p1)) && (decide ((IntKind.i64.wrap ((p0.getD y1.1.toNat zz0) - (p0.getD (Int.toNat (IntKind.i64.wrap (y1.1 - 1))) zz0))) > p1)))=((decide ((s_Z1 (IntKind.i64.wrap ((p0.getD (Int.toNat (IntKind.i64.wrap (y1.1 - 1))) zz0) - (p0.getD (Int.toNat (IntKind.i64.wrap (y1.1 + 1))) zz0))))≤p1)) && (decide ((IntKind.i64.wrap ((p0.getD y1.1.toNat zz0) - (p0.getD (Int.toNat (IntKind.i64.wrap (y1.1 - 1))) zz0))) > p1))))) ∧(((((decide ((s_Z1 (IntKind.i64.wrap ((p0.getD (Int.toNat (IntKind.i64.wrap (y1.1 - 1))) zz0) - (p0.getD (Int.toNat (IntKind.i64.wrap (y1.1 + 1))) zz0))))≤p1)) && (decide ((IntKind.i64.wrap ((p0.getD y1.1.toNat zz0) - (p0.getD (Int.toNat (IntKind.i64.wrap (y1.1 - 1))) zz0))) > p1)))=true) →(((decide ((s_Z1 (IntKind.i64.wrap ((p0.getD (Int.toNat (IntKind.i64.wrap (y1.1 - 1))) zz0) - (p0.getD (Int.toNat (IntKind.i64.wrap (y1.1 + 1))) zz0))))≤p1)) && (decide ((IntKind.i64.wrap ((p0.getD y1.1.toNat zz0) - (p0.getD (Int.toNat (IntKind.i64.wrap (y1.1 - 1))) zz0))) > p1)))=((decide ((s_Z1 (IntKind.i64.wrap ((p0.getD (Int.toNat (IntKind.i64.wrap (y1.1 - 1))) zz0) - (p0.getD (Int.toNat (IntKind.i64.wrap (y1.1 + 1))) zz0))))≤p1)) && (decide ((IntKind.i64.wrap ((p0.getD y1.1.toNat zz0) - (p0.getD (Int.toNat (IntKind.i64.wrap (y1.1 - 1))) zz0))) > p1))))) ∧((((decide ((s_Z1 (IntKind.i64.wrap ((p0.getD (Int.toNat (IntKind.i64.wrap (y1.1 - 1))) zz0) - (p0.getD (Int.toNat (IntKind.i64.wrap (y1.1 + 1))) zz0))))≤p1))=true) →((decide ((s_Z1 (IntKind.i64.wrap ((p0.getD (Int.toNat (IntKind.i64.wrap (y1.1 - 1))) zz0) - (p0.getD (Int.toNat (IntKind.i64.wrap (y1.1 + 1))) zz0))))≤p1))=(decide ((s_Z1 (IntKind.i64.wrap ((p0.getD (Int.toNat (IntKind.i64.wrap (y1.1 - 1))) zz0) - (p0.getD (Int.toNat (IntKind.i64.wrap (y1.1 + 1))) zz0))))≤p1)))) ∧((((decide ((s_Z1 (IntKind.i64.wrap ((p0.getD (Int.toNat (IntKind.i64.wrap (y1.1 - 1))) zz0) - (p0.getD (Int.toNat (IntKind.i64.wrap (y1.1 + 1))) zz0))))≤p1))=true) →(((decide ((s_Z1 (IntKind.i64.wrap ((p0.getD (Int.toNat (IntKind.i64.wrap (y1.1 - 1))) zz0) - (p0.getD (Int.toNat (IntKind.i64.wrap (y1.1 + 1))) zz0))))≤p1)) && (decide ((IntKind.i64.wrap ((p0.getD y1.1.toNat zz0) - (p0.getD (Int.toNat (IntKind.i64.wrap (y1.1 - 1))) zz0))) > p1)))=(decide ((IntKind.i64.wrap ((p0.getD y1.1.toNat zz0) - (p0.getD (Int.toNat (IntKind.i64.wrap (y1.1 - 1))) zz0))) > p1)))) ∧((((decide ((s_Z1 (IntKind.i64.wrap ((p0.getD (Int.toNat (IntKind.i64.wrap (y1.1 - 1))) zz0) - (p0.getD (Int.toNat (IntKind.i64.wrap (y1.1 + 1))) zz0))))≤p1))=true) →((decide ((s_Z1 (IntKind.i64.wrap ((p0.getD (Int.toNat (IntKind.i64.wrap (y1.1 - 1))) zz0) - (p0.getD (Int.toNat (IntKind.i64.wrap (y1.1 + 1))) zz0))))≤p1))=(decide ((s_Z1 (IntKind.i64.wrap ((p0.getD (Int.toNat (IntKind.i64.wrap (y1.1 - 1))) zz0) - (p0.getD (Int.toNat (IntKind.i64.wrap (y1.1 + 1))) zz0))))≤p1)))) ∧(((((!(decide ((s_Z1 (IntKind.i64.wrap ((p0.getD (Int.toNat (IntKind.i64.wrap (y1.1 - 1))) zz0) - (p0.getD (Int.toNat (IntKind.i64.wrap (y1.1 + 1))) zz0))))≤p1))) || (cond (decide ((IntKind.i64.wrap ((p0.getD y1.1.toNat zz0) - (p0.getD (Int.toNat (IntKind.i64.wrap (y1.1 - 1))) zz0))) > p1)) (decide ((IntKind.i64.wrap ((p0.getD y1.1.toNat zz0) - (p0.getD (Int.toNat (IntKind.i64.wrap (y1.1 + 1))) zz0))) > p1)) false))=false) →(((!(decide ((s_Z1 (IntKind.i64.wrap ((p0.getD (Int.toNat (IntKind.i64.wrap (y1.1 - 1))) zz0) - (p0.getD (Int.toNat (IntKind.i64.wrap (y1.1 + 1))) zz0))))≤p1))) || (cond (decide ((IntKind.i64.wrap ((p0.getD y1.1.toNat zz0) - (p0.getD (Int.toNat (IntKind.i64.wrap (y1.1 - 1))) zz0))) > p1)) (decide ((IntKind.i64.wrap ((p0.getD y1.1.toNat zz0) - (p0.getD (Int.toNat (IntKind.i64.wrap (y1.1 + 1))) zz0))) > p1)) false))=((!(decide ((s_Z1 (IntKind.i64.wrap ((p0.getD (Int.toNat (IntKind.i64.wrap (y1.1 - 1))) zz0) - (p0.getD (Int.toNat (IntKind.i64.wrap (y1.1 + 1))) zz0))))≤p1))) || (cond (decide ((IntKind.i64.wrap ((p0.getD y1.1.toNat zz0) - (p0.getD (Int.toNat (IntKind.i64.wrap (y1.1 - 1))) zz0))) > p1)) (decide ((IntKind.i64.wrap ((p0.getD y1.1.toNat zz0) - (p0.getD (Int.toNat (IntKind.i64.wrap (y1.1 + 1))) zz0))) > p1)) false)))) ∧(((((!(decide ((s_Z1 (IntKind.i64.wrap ((p0.getD (Int.toNat (IntKind.i64.wrap (y1.1 - 1))) zz0) - (p0.getD (Int.toNat (IntKind.i64.wrap (y1.1 + 1))) zz0))))≤p1))) || (cond (decide ((IntKind.i64.wrap ((p0.getD y1.1.toNat zz0) - (p0.getD (Int.toNat (IntKind.i64.wrap (y1.1 - 1))) zz0))) > p1)) (decide ((IntKind.i64.wrap ((p0.getD y1.1.toNat zz0) - (p0.getD (Int.toNat (IntKind.i64.wrap (y1.1 + 1))) zz0))) > p1)) false))=false) →(((!(decide ((s_Z1 (IntKind.i64.wrap ((p0.getD (Int.toNat (IntKind.i64.wrap (y1.1 - 1))) zz0) - (p0.getD (Int.toNat (IntKind.i64.wrap (y1.1 + 1))) zz0))))≤p1))) || (cond (decide ((IntKind.i64.wrap ((p0.getD y1.1.toNat zz0) - (p0.getD (Int.toNat (IntKind.i64.wrap (y1.1 - 1))) zz0))) > p1)) (decide ((IntKind.i64.wrap ((p0.getD y1.1.toNat zz0) - (p0.getD (Int.toNat (IntKind.i64.wrap (y1.1 + 1))) zz0))) > p1)) false))=((!(decide ((s_Z1 (IntKind.i64.wrap ((p0.getD (Int.toNat (IntKind.i64.wrap (y1.1 - 1))) zz0) - (p0.getD (Int.toNat (IntKind.i64.wrap (y1.1 + 1))) zz0))))≤p1))) || (cond (decide ((IntKind.i64.wrap ((p0.getD y1.1.toNat zz0) - (p0.getD (Int.toNat (IntKind.i64.wrap (y1.1 - 1))) zz0))) > p1)) (decide ((IntKind.i64.wrap ((p0.getD y1.1.toNat zz0) - (p0.getD (Int.toNat (IntKind.i64.wrap (y1.1 + 1))) zz0))) > p1)) false)))) ∧(((((!(decide ((s_Z1 (IntKind.i64.wrap ((p0.getD (Int.toNat (IntKind.i64.wrap (y1.1 - 1))) zz0) - (p0.getD (Int.toNat (IntKind.i64.wrap (y1.1 + 1))) zz0))))≤p1))) || (cond (decide ((IntKind.i64.wrap ((p0.getD y1.1.toNat zz0) - (p0.getD (Int.toNat (IntKind.i64.wrap (y1.1 - 1))) zz0))) > p1)) (decide ((IntKind.i64.wrap ((p0.getD y1.1.toNat zz0) - (p0.getD (Int.toNat (IntKind.i64.wrap (y1.1 + 1))) zz0))) > p1)) false))=false) →(((!(decide ((s_Z1 (IntKind.i64.wrap ((p0.getD (Int.toNat (IntKind.i64.wrap (y1.1 - 1))) zz0) - (p0.getD (Int.toNat (IntKind.i64.wrap (y1.1 + 1))) zz0))))≤p1))) || (cond (decide ((IntKind.i64.wrap ((p0.getD y1.1.toNat zz0) - (p0.getD (Int.toNat (IntKind.i64.wrap (y1.1 - 1))) zz0))) > p1)) (decide ((IntKind.i64.wrap ((p0.getD y1.1.toNat zz0) - (p0.getD (Int.toNat (IntKind.i64.wrap (y1.1 + 1))) zz0))) > p1)) false))=((!(decide ((s_Z1 (IntKind.i64.wrap ((p0.getD (Int.toNat (IntKind.i64.wrap (y1.1 - 1))) zz0) - (p0.getD (Int.toNat (IntKind.i64.wrap (y1.1 + 1))) zz0))))≤p1))) || (cond (decide ((IntKind.i64.wrap ((p0.getD y1.1.toNat zz0) - (p0.getD (Int.toNat (IntKind.i64.wrap (y1.1 - 1))) zz0))) > p1)) (decide ((IntKind.i64.wrap ((p0.getD y1.1.toNat zz0) - (p0.getD (Int.toNat (IntKind.i64.wrap (y1.1 + 1))) zz0))) > p1)) false)))) ∧(((((!(decide ((s_Z1 (IntKind.i64.wrap ((p0.getD (Int.toNat (IntKind.i64.wrap (y1.1 - 1))) zz0) - (p0.getD (Int.toNat (IntKind.i64.wrap (y1.1 + 1))) zz0))))≤p1))) || (cond (decide ((IntKind.i64.wrap ((p0.getD y1.1.toNat zz0) - (p0.getD (Int.toNat (IntKind.i64.wrap (y1.1 - 1))) zz0))) > p1)) (decide ((IntKind.i64.wrap ((p0.getD y1.1.toNat zz0) - (p0.getD (Int.toNat (IntKind.i64.wrap (y1.1 + 1))) zz0))) > p1)) false))=false) →(((!(decide ((s_Z1 (IntKind.i64.wrap ((p0.getD (Int.toNat (IntKind.i64.wrap (y1.1 - 1))) zz0) - (p0.getD (Int.toNat (IntKind.i64.wrap (y1.1 + 1))) zz0))))≤p1))) || (cond (decide ((IntKind.i64.wrap ((p0.getD y1.1.toNat zz0) - (p0.getD (Int.toNat (IntKind.i64.wrap (y1.1 - 1))) zz0))) > p1)) (decide ((IntKind.i64.wrap ((p0.getD y1.1.toNat zz0) - (p0.getD (Int.toNat (IntKind.i64.wrap (y1.1 + 1))) zz0))) > p1)) false))=((!(decide ((s_Z1 (IntKind.i64.wrap ((p0.getD (Int.toNat (IntKind.i64.wrap (y1.1 - 1))) zz0) - (p0.getD (Int.toNat (IntKind.i64.wrap (y1.1 + 1))) zz0))))≤p1))) || (cond (decide ((IntKind.i64.wrap ((p0.getD y1.1.toNat zz0) - (p0.getD (Int.toNat (IntKind.i64.wrap (y1.1 - 1))) zz0))) > p1)) (decide ((IntKind.i64.wrap ((p0.getD y1.1.toNat zz0) - (p0.getD (Int.toNat (IntKind.i64.wrap (y1.1 + 1))) zz0))) > p1)) false)))) ∧(((((!((!(decide ((s_Z1 (IntKind.i64.wrap ((p0.getD (Int.toNat (IntKind.i64.wrap (y1.1 - 1))) zz0) - (p0.getD (Int.toNat (IntKind.i64.wrap (y1.1 + 1))) zz0))))≤p1))) || (cond (decide ((IntKind.i64.wrap ((p0.getD y1.1.toNat zz0) - (p0.getD (Int.toNat (IntKind.i64.wrap (y1.1 - 1))) zz0))) > p1)) (decide ((IntKind.i64.wrap ((p0.getD y1.1.toNat zz0) - (p0.getD (Int.toNat (IntKind.i64.wrap (y1.1 + 1))) zz0))) > p1)) false))) && (decide ((IntKind.i64.wrap ((p0.getD y1.1.toNat zz0) - (p0.getD (Int.toNat (IntKind.i64.wrap (y1.1 - 1))) zz0))) < (IntKind.i64.wrap (zz0 - p1)))))=true) →(((!((!(decide ((s_Z1 (IntKind.i64.wrap ((p0.getD (Int.toNat (IntKind.i64.wrap (y1.1 - 1))) zz0) - (p0.getD (Int.toNat (IntKind.i64.wrap (y1.1 + 1))) zz0))))≤p1))) || (cond (decide ((IntKind.i64.wrap ((p0.getD y1.1.toNat zz0) - (p0.getD (Int.toNat (IntKind.i64.wrap (y1.1 - 1))) zz0))) > p1)) (decide ((IntKind.i64.wrap ((p0.getD y1.1.toNat zz0) - (p0.getD (Int.toNat (IntKind.i64.wrap (y1.1 + 1))) zz0))) > p1)) false))) && (decide ((IntKind.i64.wrap ((p0.getD y1.1.toNat zz0) - (p0.getD (Int.toNat (IntKind.i64.wrap (y1.1 - 1))) zz0))) < (IntKind.i64.wrap (zz0 - p1)))))=((!((!(decide ((s_Z1 (IntKind.i64.wrap ((p0.getD (Int.toNat (IntKind.i64.wrap (y1.1 - 1))) zz0) - (p0.getD (Int.toNat (IntKind.i64.wrap (y1.1 + 1))) zz0))))≤p1))) || (cond (decide ((IntKind.i64.wrap ((p0.getD y1.1.toNat zz0) - (p0.getD (Int.toNat (IntKind.i64.wrap (y1.1 - 1))) zz0))) > p1)) (decide ((IntKind.i64.wrap ((p0.getD y1.1.toNat zz0) - (p0.getD (Int.toNat (IntKind.i64.wrap (y1.1 + 1))) zz0))) > p1)) false))) && (decide ((IntKind.i64.wrap ((p0.getD y1.1.toNat zz0) - (p0.getD (Int.toNat (IntKind.i64.wrap (y1.1 - 1))) zz0))) < (IntKind.i64.wrap (zz0 - p1))))))) ∧(((((!((!(decide ((s_Z1 (IntKind.i64.wrap ((p0.getD (Int.toNat (IntKind.i64.wrap (y1.1 - 1))) zz0) - (p0.getD (Int.toNat (IntKind.i64.wrap (y1.1 + 1))) zz0))))≤p1))) || (cond (decide ((IntKind.i64.wrap ((p0.getD y1.1.toNat zz0) - (p0.getD (Int.toNat (IntKind.i64.wrap (y1.1 - 1))) zz0))) > p1)) (decide ((IntKind.i64.wrap ((p0.getD y1.1.toNat zz0) - (p0.getD (Int.toNat (IntKind.i64.wrap (y1.1 + 1))) zz0))) > p1)) false))) && (decide ((IntKind.i64.wrap ((p0.getD y1.1.toNat zz0) - (p0.getD (Int.toNat (IntKind.i64.wrap (y1.1 - 1))) zz0))) < (IntKind.i64.wrap (zz0 - p1)))))=true) →(((!((!(decide ((s_Z1 (IntKind.i64.wrap ((p0.getD (Int.toNat (IntKind.i64.wrap (y1.1 - 1))) zz0) - (p0.getD (Int.toNat (IntKind.i64.wrap (y1.1 + 1))) zz0))))≤p1))) || (cond (decide ((IntKind.i64.wrap ((p0.getD y1.1.toNat zz0) - (p0.getD (Int.toNat (IntKind.i64.wrap (y1.1 - 1))) zz0))) > p1)) (decide ((IntKind.i64.wrap ((p0.getD y1.1.toNat zz0) - (p0.getD (Int.toNat (IntKind.i64.wrap (y1.1 + 1))) zz0))) > p1)) false))) && (decide ((IntKind.i64.wrap ((p0.getD y1.1.toNat zz0) - (p0.getD (Int.toNat (IntKind.i64.wrap (y1.1 - 1))) zz0))) < (IntKind.i64.wrap (zz0 - p1)))))=((!((!(decide ((s_Z1 (IntKind.i64.wrap ((p0.getD (Int.toNat (IntKind.i64.wrap (y1.1 - 1))) zz0) - (p0.getD (Int.toNat (IntKind.i64.wrap (y1.1 + 1))) zz0))))≤p1))) || (cond (decide ((IntKind.i64.wrap ((p0.getD y1.1.toNat zz0) - (p0.getD (Int.toNat (IntKind.i64.wrap (y1.1 - 1))) zz0))) > p1)) (decide ((IntKind.i64.wrap ((p0.getD y1.1.toNat zz0) - (p0.getD (Int.toNat (IntKind.i64.wrap (y1.1 + 1))) zz0))) > p1)) false))) && (decide ((IntKind.i64.wrap ((p0.getD y1.1.toNat zz0) - (p0.getD (Int.toNat (IntKind.i64.wrap (y1.1 - 1))) zz0))) < (IntKind.i64.wrap (zz0 - p1))))))) ∧(((((!((!(decide ((s_Z1 (IntKind.i64.wrap ((p0.getD (Int.toNat (IntKind.i64.wrap (y1.1 - 1))) zz0) - (p0.getD (Int.toNat (IntKind.i64.wrap (y1.1 + 1))) zz0))))≤p1))) || (cond (decide ((IntKind.i64.wrap ((p0.getD y1.1.toNat zz0) - (p0.getD (Int.toNat (IntKind.i64.wrap (y1.1 - 1))) zz0))) > p1)) (decide ((IntKind.i64.wrap ((p0.getD y1.1.toNat zz0) - (p0.getD (Int.toNat (IntKind.i64.wrap (y1.1 + 1))) zz0))) > p1)) false))) && (decide ((IntKind.i64.wrap ((p0.getD y1.1.toNat zz0) - (p0.getD (Int.toNat (IntKind.i64.wrap (y1.1 - 1))) zz0))) < (IntKind.i64.wrap (zz0 - p1)))))=true) →(((!((!(decide ((s_Z1 (IntKind.i64.wrap ((p0.getD (Int.toNat (IntKind.i64.wrap (y1.1 - 1))) zz0) - (p0.getD (Int.toNat (IntKind.i64.wrap (y1.1 + 1))) zz0))))≤p1))) || (cond (decide ((IntKind.i64.wrap ((p0.getD y1.1.toNat zz0) - (p0.getD (Int.toNat (IntKind.i64.wrap (y1.1 - 1))) zz0))) > p1)) (decide ((IntKind.i64.wrap ((p0.getD y1.1.toNat zz0) - (p0.getD (Int.toNat (IntKind.i64.wrap (y1.1 + 1))) zz0))) > p1)) false))) && (decide ((IntKind.i64.wrap ((p0.getD y1.1.toNat zz0) - (p0.getD (Int.toNat (IntKind.i64.wrap (y1.1 - 1))) zz0))) < (IntKind.i64.wrap (zz0 - p1)))))=((!((!(decide ((s_Z1 (IntKind.i64.wrap ((p0.getD (Int.toNat (IntKind.i64.wrap (y1.1 - 1))) zz0) - (p0.getD (Int.toNat (IntKind.i64.wrap (y1.1 + 1))) zz0))))≤p1))) || (cond (decide ((IntKind.i64.wrap ((p0.getD y1.1.toNat zz0) - (p0.getD (Int.toNat (IntKind.i64.wrap (y1.1 - 1))) zz0))) > p1)) (decide ((IntKind.i64.wrap ((p0.getD y1.1.toNat zz0) - (p0.getD (Int.toNat (IntKind.i64.wrap (y1.1 + 1))) zz0))) > p1)) false))) && (decide ((IntKind.i64.wrap ((p0.getD y1.1.toNat zz0) - (p0.getD (Int.toNat (IntKind.i64.wrap (y1.1 - 1))) zz0))) < (IntKind.i64.wrap (zz0 - p1))))))) ∧(((((!(decide ((s_Z1 (IntKind.i64.wrap ((p0.getD (Int.toNat (IntKind.i64.wrap (y1.1 - 1))) zz0) - (p0.getD (Int.toNat (IntKind.i64.wrap (y1.1 + 1))) zz0))))≤p1))) || (cond (decide ((IntKind.i64.wrap ((p0.getD y1.1.toNat zz0) - (p0.getD (Int.toNat (IntKind.i64.wrap (y1.1 - 1))) zz0))) > p1)) (decide ((IntKind.i64.wrap ((p0.getD y1.1.toNat zz0) - (p0.getD (Int.toNat (IntKind.i64.wrap (y1.1 + 1))) zz0))) > p1)) false))=false) →(((!(decide ((s_Z1 (IntKind.i64.wrap ((p0.getD (Int.toNat (IntKind.i64.wrap (y1.1 - 1))) zz0) - (p0.getD (Int.toNat (IntKind.i64.wrap (y1.1 + 1))) zz0))))≤p1))) || (cond (decide ((IntKind.i64.wrap ((p0.getD y1.1.toNat zz0) - (p0.getD (Int.toNat (IntKind.i64.wrap (y1.1 - 1))) zz0))) > p1)) (decide ((IntKind.i64.wrap ((p0.getD y1.1.toNat zz0) - (p0.getD (Int.toNat (IntKind.i64.wrap (y1.1 + 1))) zz0))) > p1)) false))=((!(decide ((s_Z1 (IntKind.i64.wrap ((p0.getD (Int.toNat (IntKind.i64.wrap (y1.1 - 1))) zz0) - (p0.getD (Int.toNat (IntKind.i64.wrap (y1.1 + 1))) zz0))))≤p1))) || (cond (decide ((IntKind.i64.wrap ((p0.getD y1.1.toNat zz0) - (p0.getD (Int.toNat (IntKind.i64.wrap (y1.1 - 1))) zz0))) > p1)) (decide ((IntKind.i64.wrap ((p0.getD y1.1.toNat zz0) - (p0.getD (Int.toNat (IntKind.i64.wrap (y1.1 + 1))) zz0))) > p1)) false)))) ∧(((((!(decide ((s_Z1 (IntKind.i64.wrap ((p0.getD (Int.toNat (IntKind.i64.wrap (y1.1 - 1))) zz0) - (p0.getD (Int.toNat (IntKind.i64.wrap (y1.1 + 1))) zz0))))≤p1))) || (cond (decide ((IntKind.i64.wrap ((p0.getD y1.1.toNat zz0) - (p0.getD (Int.toNat (IntKind.i64.wrap (y1.1 - 1))) zz0))) > p1)) (decide ((IntKind.i64.wrap ((p0.getD y1.1.toNat zz0) - (p0.getD (Int.toNat (IntKind.i64.wrap (y1.1 + 1))) zz0))) > p1)) false))=false) →(((!((!(decide ((s_Z1 (IntKind.i64.wrap ((p0.getD (Int.toNat (IntKind.i64.wrap (y1.1 - 1))) zz0) - (p0.getD (Int.toNat (IntKind.i64.wrap (y1.1 + 1))) zz0))))≤p1))) || (cond (decide ((IntKind.i64.wrap ((p0.getD y1.1.toNat zz0) - (p0.getD (Int.toNat (IntKind.i64.wrap (y1.1 - 1))) zz0))) > p1)) (decide ((IntKind.i64.wrap ((p0.getD y1.1.toNat zz0) - (p0.getD (Int.toNat (IntKind.i64.wrap (y1.1 + 1))) zz0))) > p1)) false))) && (decide ((IntKind.i64.wrap ((p0.getD y1.1.toNat zz0) - (p0.getD (Int.toNat (IntKind.i64.wrap (y1.1 - 1))) zz0))) < (IntKind.i64.wrap (zz0 - p1)))))=(decide ((IntKind.i64.wrap ((p0.getD y1.1.toNat zz0) - (p0.getD (Int.toNat (IntKind.i64.wrap (y1.1 - 1))) zz0))) < (IntKind.i64.wrap (zz0 - p1)))))) ∧((((decide ((s_Z1 (IntKind.i64.wrap ((p0.getD (Int.toNat (IntKind.i64.wrap (y1.1 - 1))) zz0) - (p0.getD (Int.toNat (IntKind.i64.wrap (y1.1 + 1))) zz0))))≤p1))=true) →((decide ((s_Z1 (IntKind.i64.wrap ((p0.getD (Int.toNat (IntKind.i64.wrap (y1.1 - 1))) zz0) - (p0.getD (Int.toNat (IntKind.i64.wrap (y1.1 + 1))) zz0))))≤p1))=(decide ((s_Z1 (IntKind.i64.wrap ((p0.getD (Int.toNat (IntKind.i64.wrap (y1.1 - 1))) zz0) - (p0.getD (Int.toNat (IntKind.i64.wrap (y1.1 + 1))) zz0))))≤p1)))) ∧((((decide ((s_Z1 (IntKind.i64.wrap ((p0.getD (Int.toNat (IntKind.i64.wrap (y1.1 - 1))) zz0) - (p0.getD (Int.toNat (IntKind.i64.wrap (y1.1 + 1))) zz0))))≤p1))=true) →(((!(decide ((s_Z1 (IntKind.i64.wrap ((p0.getD (Int.toNat (IntKind.i64.wrap (y1.1 - 1))) zz0) - (p0.getD (Int.toNat (IntKind.i64.wrap (y1.1 + 1))) zz0))))≤p1))) || (cond (decide ((IntKind.i64.wrap ((p0.getD y1.1.toNat zz0) - (p0.getD (Int.toNat (IntKind.i64.wrap (y1.1 - 1))) zz0))) > p1)) (decide ((IntKind.i64.wrap ((p0.getD y1.1.toNat zz0) - (p0.getD (Int.toNat (IntKind.i64.wrap (y1.1 + 1))) zz0))) > p1)) false))=(cond (decide ((IntKind.i64.wrap ((p0.getD y1.1.toNat zz0) - (p0.getD (Int.toNat (IntKind.i64.wrap (y1.1 - 1))) zz0))) > p1)) (decide ((IntKind.i64.wrap ((p0.getD y1.1.toNat zz0) - (p0.getD (Int.toNat (IntKind.i64.wrap (y1.1 + 1))) zz0))) > p1)) false))) ∧(((decide ((s_Z1 (IntKind.i64.wrap ((p0.getD (Int.toNat (IntKind.i64.wrap (y1.1 - 1))) zz0) - (p0.getD (Int.toNat (IntKind.i64.wrap (y1.1 + 1))) zz0))))≤p1))=(decide ((s_Z1 (IntKind.i64.wrap ((p0.getD (Int.toNat (IntKind.i64.wrap (y1.1 - 1))) zz0) - (p0.getD (Int.toNat (IntKind.i64.wrap (y1.1 + 1))) zz0))))≤p1))) ∧((((cond (decide ((s_Z1 (IntKind.i64.wrap ((p0.getD (Int.toNat (IntKind.i64.wrap (y1.1 - 1))) zz0) - (p0.getD (Int.toNat (IntKind.i64.wrap (y1.1 + 1))) zz0))))≤p1)) (cond (cond (decide ((IntKind.i64.wrap ((p0.getD y1.1.toNat zz0) - (p0.getD (Int.toNat (IntKind.i64.wrap (y1.1 - 1))) zz0))) > p1)) (decide ((IntKind.i64.wrap ((p0.getD y1.1.toNat zz0) - (p0.getD (Int.toNat (IntKind.i64.wrap (y1.1 + 1))) zz0))) > p1)) false) true (cond (decide ((IntKind.i64.wrap ((p0.getD y1.1.toNat zz0) - (p0.getD (Int.toNat (IntKind.i64.wrap (y1.1 - 1))) zz0))) < (IntKind.i64.wrap (zz0 - p1)))) (decide ((IntKind.i64.wrap ((p0.getD y1.1.toNat zz0) - (p0.getD (Int.toNat (IntKind.i64.wrap (y1.1 + 1))) zz0))) < (IntKind.i64.wrap (zz0 - p1)))) false)) false)=true) →((((y1.2.length + (List.length (y1.1 :: ([]:List Int)))) * 8)≤140737488355328) ∧(k2 ((IntKind.i64.wrap (y1.1 + 1)),(y1.2 ++ (y1.1 :: ([]:List Int))))))) ∧(((cond (decide ((s_Z1 (IntKind.i64.wrap ((p0.getD (Int.toNat (IntKind.i64.wrap (y1.1 - 1))) zz0) - (p0.getD (Int.toNat (IntKind.i64.wrap (y1.1 + 1))) zz0))))≤p1)) (cond (cond (decide ((IntKind.i64.wrap ((p0.getD y1.1.toNat zz0) - (p0.getD (Int.toNat (IntKind.i64.wrap (y1.1 - 1))) zz0))) > p1)) (decide ((IntKind.i64.wrap ((p0.getD y1.1.toNat zz0) - (p0.getD (Int.toNat (IntKind.i64.wrap (y1.1 + 1))) zz0))) > p1)) false) true (cond (decide ((IntKind.i64.wrap ((p0.getD y1.1.toNat zz0) - (p0.getD (Int.toNat (IntKind.i64.wrap (y1.1 - 1))) zz0))) < (IntKind.i64.wrap (zz0 - p1)))) (decide ((IntKind.i64.wrap ((p0.getD y1.1.toNat zz0) - (p0.getD (Int.toNat (IntKind.i64.wrap (y1.1 + 1))) zz0))) < (IntKind.i64.wrap (zz0 - p1)))) false)) false)=false) →(k2 ((IntKind.i64.wrap (y1.1 + 1)),y1.2))))))))))))))))))))))))))))))))))))) ∧(((decide ((IntKind.i64.wrap (y1.1 + 1)) < (p0.length:Int)))=false) →(K y1.2)))) n0 (zz1,([]:List Int))))
theorem w_Z5_eq (p0:gF) (p1:Int) (K:(List Int)→Prop):tfn F_Z5 A_Z5 C_Z5 P_Z5 R_Z5 (p0,p1) K = w_Z5 p0 p1 K := by kernel_rfl
def st_Z5_0 (p0:gF) (p1:Int) (y0:gE):(Int×(List Int)) ⊕ (List Int) := (cond (decide ((IntKind.i64.wrap (y0.1 + 1)) < (p0.length:Int))) (cond (cond (decide ((s_Z1 (IntKind.i64.wrap ((p0.getD (Int.toNat (IntKind.i64.wrap (y0.1 - 1))) (0:Int)) - (p0.getD (Int.toNat (IntKind.i64.wrap (y0.1 + 1))) (0:Int)))))≤p1)) (cond (cond (decide ((IntKind.i64.wrap ((p0.getD y0.1.toNat (0:Int)) - (p0.getD (Int.toNat (IntKind.i64.wrap (y0.1 - 1))) (0:Int)))) > p1)) (decide ((IntKind.i64.wrap ((p0.getD y0.1.toNat (0:Int)) - (p0.getD (Int.toNat (IntKind.i64.wrap (y0.1 + 1))) (0:Int)))) > p1)) false) true (cond (decide ((IntKind.i64.wrap ((p0.getD y0.1.toNat (0:Int)) - (p0.getD (Int.toNat (IntKind.i64.wrap (y0.1 - 1))) (0:Int)))) < (IntKind.i64.wrap ((0:Int) - p1)))) (decide ((IntKind.i64.wrap ((p0.getD y0.1.toNat (0:Int)) - (p0.getD (Int.toNat (IntKind.i64.wrap (y0.1 + 1))) (0:Int)))) < (IntKind.i64.wrap ((0:Int) - p1)))) false)) false) (Sum.inl ((IntKind.i64.wrap (y0.1 + 1)),(y0.2 ++ (y0.1 :: ([]:List Int))))) (Sum.inl ((IntKind.i64.wrap (y0.1 + 1)),y0.2))) (Sum.inr y0.2))
abbrev sp_Z5_0 (p0:gF) (p1:Int) (y0:gE):List Prop := [(((decide ((IntKind.i64.wrap (y0.1 + 1)) < (p0.length:Int)))=true)→((0:Int)≤y0.1)),(((decide ((IntKind.i64.wrap (y0.1 + 1)) < (p0.length:Int)))=true)→(y0.1 < (p0.length:Int))),(((decide ((IntKind.i64.wrap (y0.1 + 1)) < (p0.length:Int)))=true)→((0:Int)≤(IntKind.i64.wrap (y0.1 - 1)))),(((decide ((IntKind.i64.wrap (y0.1 + 1)) < (p0.length:Int)))=true)→((IntKind.i64.wrap (y0.1 - 1)) < (p0.length:Int))),(((decide ((IntKind.i64.wrap (y0.1 + 1)) < (p0.length:Int)))=true)→((0:Int)≤(IntKind.i64.wrap (y0.1 + 1)))),(((decide ((IntKind.i64.wrap (y0.1 + 1)) < (p0.length:Int)))=true)→((IntKind.i64.wrap (y0.1 + 1)) < (p0.length:Int))),(((decide ((IntKind.i64.wrap (y0.1 + 1)) < (p0.length:Int)))=true)→(((decide ((s_Z1 (IntKind.i64.wrap ((p0.getD (Int.toNat (IntKind.i64.wrap (y0.1 - 1))) (0:Int)) - (p0.getD (Int.toNat (IntKind.i64.wrap (y0.1 + 1))) (0:Int)))))≤p1))=true)→(((decide ((s_Z1 (IntKind.i64.wrap ((p0.getD (Int.toNat (IntKind.i64.wrap (y0.1 - 1))) (0:Int)) - (p0.getD (Int.toNat (IntKind.i64.wrap (y0.1 + 1))) (0:Int)))))≤p1)) && (decide ((IntKind.i64.wrap ((p0.getD y0.1.toNat (0:Int)) - (p0.getD (Int.toNat (IntKind.i64.wrap (y0.1 - 1))) (0:Int)))) > p1)))=(decide ((IntKind.i64.wrap ((p0.getD y0.1.toNat (0:Int)) - (p0.getD (Int.toNat (IntKind.i64.wrap (y0.1 - 1))) (0:Int)))) > p1))))),(((decide ((IntKind.i64.wrap (y0.1 + 1)) < (p0.length:Int)))=true)→((((!(decide ((s_Z1 (IntKind.i64.wrap ((p0.getD (Int.toNat (IntKind.i64.wrap (y0.1 - 1))) (0:Int)) - (p0.getD (Int.toNat (IntKind.i64.wrap (y0.1 + 1))) (0:Int)))))≤p1))) || (cond (decide ((IntKind.i64.wrap ((p0.getD y0.1.toNat (0:Int)) - (p0.getD (Int.toNat (IntKind.i64.wrap (y0.1 - 1))) (0:Int)))) > p1)) (decide ((IntKind.i64.wrap ((p0.getD y0.1.toNat (0:Int)) - (p0.getD (Int.toNat (IntKind.i64.wrap (y0.1 + 1))) (0:Int)))) > p1)) false))=false)→(((!((!(decide ((s_Z1 (IntKind.i64.wrap ((p0.getD (Int.toNat (IntKind.i64.wrap (y0.1 - 1))) (0:Int)) - (p0.getD (Int.toNat (IntKind.i64.wrap (y0.1 + 1))) (0:Int)))))≤p1))) || (cond (decide ((IntKind.i64.wrap ((p0.getD y0.1.toNat (0:Int)) - (p0.getD (Int.toNat (IntKind.i64.wrap (y0.1 - 1))) (0:Int)))) > p1)) (decide ((IntKind.i64.wrap ((p0.getD y0.1.toNat (0:Int)) - (p0.getD (Int.toNat (IntKind.i64.wrap (y0.1 + 1))) (0:Int)))) > p1)) false))) && (decide ((IntKind.i64.wrap ((p0.getD y0.1.toNat (0:Int)) - (p0.getD (Int.toNat (IntKind.i64.wrap (y0.1 - 1))) (0:Int)))) < (IntKind.i64.wrap ((0:Int) - p1)))))=(decide ((IntKind.i64.wrap ((p0.getD y0.1.toNat (0:Int)) - (p0.getD (Int.toNat (IntKind.i64.wrap (y0.1 - 1))) (0:Int)))) < (IntKind.i64.wrap ((0:Int) - p1))))))),(((decide ((IntKind.i64.wrap (y0.1 + 1)) < (p0.length:Int)))=true)→(((decide ((s_Z1 (IntKind.i64.wrap ((p0.getD (Int.toNat (IntKind.i64.wrap (y0.1 - 1))) (0:Int)) - (p0.getD (Int.toNat (IntKind.i64.wrap (y0.1 + 1))) (0:Int)))))≤p1))=true)→(((!(decide ((s_Z1 (IntKind.i64.wrap ((p0.getD (Int.toNat (IntKind.i64.wrap (y0.1 - 1))) (0:Int)) - (p0.getD (Int.toNat (IntKind.i64.wrap (y0.1 + 1))) (0:Int)))))≤p1))) || (cond (decide ((IntKind.i64.wrap ((p0.getD y0.1.toNat (0:Int)) - (p0.getD (Int.toNat (IntKind.i64.wrap (y0.1 - 1))) (0:Int)))) > p1)) (decide ((IntKind.i64.wrap ((p0.getD y0.1.toNat (0:Int)) - (p0.getD (Int.toNat (IntKind.i64.wrap (y0.1 + 1))) (0:Int)))) > p1)) false))=(cond (decide ((IntKind.i64.wrap ((p0.getD y0.1.toNat (0:Int)) - (p0.getD (Int.toNat (IntKind.i64.wrap (y0.1 - 1))) (0:Int)))) > p1)) (decide ((IntKind.i64.wrap ((p0.getD y0.1.toNat (0:Int)) - (p0.getD (Int.toNat (IntKind.i64.wrap (y0.1 + 1))) (0:Int)))) > p1)) false)))),(((decide ((IntKind.i64.wrap (y0.1 + 1)) < (p0.length:Int)))=true)→(((cond (decide ((s_Z1 (IntKind.i64.wrap ((p0.getD (Int.toNat (IntKind.i64.wrap (y0.1 - 1))) (0:Int)) - (p0.getD (Int.toNat (IntKind.i64.wrap (y0.1 + 1))) (0:Int)))))≤p1)) (cond (cond (decide ((IntKind.i64.wrap ((p0.getD y0.1.toNat (0:Int)) - (p0.getD (Int.toNat (IntKind.i64.wrap (y0.1 - 1))) (0:Int)))) > p1)) (decide ((IntKind.i64.wrap ((p0.getD y0.1.toNat (0:Int)) - (p0.getD (Int.toNat (IntKind.i64.wrap (y0.1 + 1))) (0:Int)))) > p1)) false) true (cond (decide ((IntKind.i64.wrap ((p0.getD y0.1.toNat (0:Int)) - (p0.getD (Int.toNat (IntKind.i64.wrap (y0.1 - 1))) (0:Int)))) < (IntKind.i64.wrap ((0:Int) - p1)))) (decide ((IntKind.i64.wrap ((p0.getD y0.1.toNat (0:Int)) - (p0.getD (Int.toNat (IntKind.i64.wrap (y0.1 + 1))) (0:Int)))) < (IntKind.i64.wrap ((0:Int) - p1)))) false)) false)=true)→(((y0.2.length + (List.length (y0.1 :: ([]:List Int)))) * 8)≤140737488355328)))]
def s_Z5 (p0:gF) (p1:Int):(List Int) := (lpv [] (st_Z5_0 p0 p1) ((1:Int),([]:List Int)))
abbrev pre_Z5 (p0:gF) (p1:Int):List Prop := [(OkL (st_Z5_0 p0 p1) (sp_Z5_0 p0 p1) ((1:Int),([]:List Int)))]
theorem d_Z5 (p0:gF) (p1:Int) (K:(List Int)→Prop) (hp:∀ p∈pre_Z5 p0 p1,p) (h:K (s_Z5 p0 p1)):w_Z5 p0 p1 K := by
 unfold w_Z5
 unfold s_Z5 at h
 obtain ⟨hp0,_⟩ := conj_of hp
 exact (loop_gen (hp0) h (fun y0 k0 hp h => by
 unfold st_Z5_0 at h; obtain ⟨hp0,hp1,hp2,hp3,hp4,hp5,hp6,hp7,hp8,hp9,_⟩ := conj_of hp
 exact (br' h (fun e1 h => ⟨(hp0 e1),(hp1 e1),(hp2 e1),(hp3 e1),(hp0 e1),(hp1 e1),(hp4 e1),(hp5 e1),(hp2 e1),(hp3 e1),(hp4 e1),(hp5 e1),rf,rf,rf,rf,rf,rf,(hp6 e1),rf,rf,rf,rf,rf,rf,rf,rf,rf,(hp7 e1),rf,(hp8 e1),rfl,(br' h (fun e2 h => ⟨(hp9 e1 e2),h⟩)
  (fun e2 h => h))⟩)
  (fun e1 h => h))))
theorem v_spk_r {a b n m:Int} (ha : -100000≤a∧a≤100000) (hb : -100000≤b∧b≤100000) (hn : -100000≤n∧n≤100000) (hm:0≤m∧m≤200000):cond (decide (s_Z1 (IntKind.i64.wrap (a - b))≤m)) (cond (cond (decide (IntKind.i64.wrap (n - a) > m)) (decide (IntKind.i64.wrap (n - b) > m)) false) true (cond (decide (IntKind.i64.wrap (n - a) < IntKind.i64.wrap (0 - m))) (decide (IntKind.i64.wrap (n - b) < IntKind.i64.wrap (0 - m))) false)) false = cond (cond (decide (n - max a b > m)) true (decide (min a b - n > m))) (s_Z2 (a - b) (-m) m) false := by
 have w1:IntKind.i64.wrap (a - b)=a - b := wrap_id (by omega) (by omega)
 have w2:IntKind.i64.wrap (n - a)=n - a := wrap_id (by omega) (by omega)
 have w3:IntKind.i64.wrap (n - b)=n - b := wrap_id (by omega) (by omega)
 have w4:IntKind.i64.wrap (0 - m) = -m := by rw [wrap_id (by omega) (by omega)]; omega
 have w5:IntKind.i64.wrap (0 - (a - b))=0 - (a - b) := wrap_id (by omega) (by omega)
 have hs:decide (s_Z1 (a - b)≤m)=s_Z2 (a - b) (-m) m := by
  unfold s_Z1
  rw [w5,Bool.eq_iff_iff,tx_within,decide_eq_true_eq]; omega
 rw [w1,w2,w3,w4,hs]
 cases s_Z2 (a - b) (-m) m
 ·rw [cond_false]; cases cond (decide (n - max a b > m)) true (decide (min a b - n > m)) <;> rfl
 ·rw [cond_true]
  have e1:cond (decide (n - a > m)) (decide (n - b > m)) false = decide (n - max a b > m) := by
   rw [Bool.eq_iff_iff,decide_eq_true_eq]; cases h:decide (n - a > m)
   ·have := of_decide_eq_false h; simp; omega
   ·have := of_decide_eq_true h; rw [cond_true,decide_eq_true_eq]; omega
  have e2:cond (decide (n - a < -m)) (decide (n - b < -m)) false = decide (min a b - n > m) := by
   rw [Bool.eq_iff_iff,decide_eq_true_eq]; cases h:decide (n - a < -m)
   ·have := of_decide_eq_false h; simp; omega
   ·have := of_decide_eq_true h; rw [cond_true,decide_eq_true_eq]; omega
  rw [e1,e2]
  cases decide (n - max a b > m) <;> cases decide (min a b - n > m) <;> rfl
theorem l_Z5_0 (p0:gF) (p1:Int) (h:v_ser p0) (hm:0≤p1∧p1≤200000):OkL (st_Z5_0 p0 p1) (sp_Z5_0 p0 p1) (1,[])∧lpv [] (st_Z5_0 p0 p1) (1,[])=v_spks p0 p1 := by
 have hl := h.len
 have hne := h.ne
 have main := @for_is (List Int) (Int×List Int) (List Int) [] (st_Z5_0 p0 p1) (sp_Z5_0 p0 p1) (fun i t => (i,t)) 1 (max 1 (p0.length - 1)) (fun j t => t = v_sel (v_spk p0 p1) (List.range' 1 (j - 1))) (fun _ _ => v_spks p0 p1) (by omega) (by omega) ?_ ?_ [] rfl
 ·exact main
 ·rintro t h1
  have hw:IntKind.i64.wrap (((max 1 (p0.length - 1):Nat):Int) + 1)=((max 1 (p0.length - 1):Nat):Int) + 1 := wrap_id (by omega) (by omega)
  have hd:decide (((max 1 (p0.length - 1):Nat):Int) + 1 < (p0.length:Int))=false := decide_eq_false (by omega)
  have e1:t = v_spks p0 p1 := by rw [h1]; unfold v_spks; congr 2; omega
  simp only [sp_Z5_0,st_Z5_0,fM,hw,hd,cond_false]
  refine ⟨?_,by rw [e1]⟩
  and_intros
  all_goals first
   | (intro h; cases h; done)
   | (intro p hp; cases hp)
 ·rintro j t h0 hj h1
  have hw1:IntKind.i64.wrap ((j:Int) + 1)=((j + 1:Nat):Int) := wrap_id (by omega) (by omega)
  have hw2:IntKind.i64.wrap ((j:Int) - 1)=((j - 1:Nat):Int) := by rw [wrap_id (by omega) (by omega)]; omega
  have hd:decide (((j + 1:Nat):Int) < (p0.length:Int))=true := decide_eq_true (by omega)
  have ga := v_ser_get h (show j - 1 < p0.length by omega)
  have gn := v_ser_get h (show j < p0.length by omega)
  have gb := v_ser_get h (show j + 1 < p0.length by omega)
  have hsn:v_sel (v_spk p0 p1) (List.range' 1 (j + 1 - 1))=v_sel (v_spk p0 p1) (List.range' 1 (j - 1)) ++ cond (v_spk p0 p1 j) [(j:Int)] [] := by
   have:List.range' 1 (j + 1 - 1)=List.range' 1 (j - 1) ++ [j] := by
    rw [show j + 1 - 1 = (j - 1) + 1 by omega,List.range'_concat]; congr 2; omega
   rw [this,v_sel_snoc]
  have hlen := v_sel_len (v_spk p0 p1) (List.range' 1 (j - 1))
  rw [List.length_range',← h1] at hlen
  have hspk:v_spk p0 p1 j = v_spk p0 p1 j := rfl
  conv at hspk => { rhs; unfold v_spk }
  have hr := v_spk_r ga gb gn hm
  rw [← hspk] at hr
  simp only [sp_Z5_0,st_Z5_0,fM,hw1,hw2,hd,cond_true,Int.toNat_natCast,hr]
  generalize v_spk p0 p1 j = c at *
  refine ⟨?_,?_⟩
  ·and_intros
   all_goals first
    | (intro p hp; cases hp; done)
    | (intros; simp only [List.length_cons,List.length_nil]; omega)
    | (intro _ q; rw [q] <;> rfl)
    | (intros; omega)
  ·cases c
   ·refine .inl ⟨t,rfl,by rw [hsn,← h1]; simp,trivial⟩
   ·refine .inl ⟨t ++ [(j:Int)],rfl,by rw [hsn,← h1]; rfl,trivial⟩
abbrev t_Z5 (p0:gF) (p1:Int):List Int := v_spks p0 p1
abbrev qre_Z5 (p0:gF) (p1:Int):List Prop := [v_ser p0,0≤p1∧p1≤200000]
theorem pp_Z5 (p0:gF) (p1:Int) (hq:∀ p∈qre_Z5 p0 p1,p):∀ p∈pre_Z5 p0 p1,p := by
 obtain ⟨h1,h2,_⟩ := conj_of hq
 simp only [pre_Z5,fM]
 exact ⟨(l_Z5_0 p0 p1 h1 h2).1,by simp⟩
theorem tt_Z5 (p0:gF) (p1:Int) (hq:∀ p∈qre_Z5 p0 p1,p):s_Z5 p0 p1 = t_Z5 p0 p1 := by
 obtain ⟨h1,h2,_⟩ := conj_of hq
 exact (l_Z5_0 p0 p1 h1 h2).2

abbrev con_Z5:Con := ⟨P_Z5,R_Z5,fun x => qre_Z5 x.1 x.2,fun x => t_Z5 x.1 x.2⟩
theorem ok_Z5:ConOk Try.prog 55 con_Z5 := okG k_Z5 e_Z5 hC_Z5 fun x hx => tf_of (w_Z5_eq x.1 x.2 _) (d_Z5 x.1 x.2 _ (pp_Z5 x.1 x.2 hx) (tt_Z5 x.1 x.2 hx))
def C_Z8:Cons := [(46,ownMark,con_Ze),(55,[],con_Z5),(30,[],con_Zf)]
theorem hC_Z8:ConsOk Try.prog C_Z8 := ConsOk.consO ok_Ze <| cC ok_Z5 <| cC ok_Zf <| ConsOk.nil
def w_Z8 (p0:gF) (p1:Int) (K:(List Int)→Prop):Prop := ((p0.length≤1000000) ∧((v_ser p0) ∧(((zz0≤p1) ∧(p1≤200000)) ∧(∃ n0,(loopP (fun (y1:gE) k2 => ((((decide (y1.1 < (((v_spks p0 p1).length:Nat):Int)))=true) →((zz0≤y1.1) ∧((y1.1 < (((v_spks p0 p1).length:Nat):Int)) ∧((zz0≤y1.1) ∧((y1.1 < (((v_spks p0 p1).length:Nat):Int)) ∧((zz0≤(IntKind.i64.wrap ((List.getD (v_spks p0 p1) y1.1.toNat zz0) - 1))) ∧(((IntKind.i64.wrap ((List.getD (v_spks p0 p1) y1.1.toNat zz0) - 1)) < (p0.length:Int)) ∧((zz0≤y1.1) ∧((y1.1 < (((v_spks p0 p1).length:Nat):Int)) ∧((zz0≤(IntKind.i64.wrap ((List.getD (v_spks p0 p1) y1.1.toNat zz0) + 1))) ∧(((IntKind.i64.wrap ((List.getD (v_spks p0 p1) y1.1.toNat zz0) + 1)) < (p0.length:Int)) ∧((v_fit (IntKind.i64.wrap ((p0.getD (Int.toNat (IntKind.i64.wrap ((List.getD (v_spks p0 p1) y1.1.toNat zz0) - 1))) zz0) + (p0.getD (Int.toNat (IntKind.i64.wrap ((List.getD (v_spks p0 p1) y1.1.toNat zz0) + 1))) zz0)))) ∧((zz0 < 2) ∧((zz0≤(List.getD (v_spks p0 p1) y1.1.toNat zz0)) ∧(((List.getD (v_spks p0 p1) y1.1.toNat zz0) < (y1.2.length:Int)) ∧(k2 ((IntKind.i64.wrap (y1.1 + 1)),(List.set y1.2 (Int.toNat (List.getD (v_spks p0 p1) y1.1.toNat zz0)) ((IntKind.i64.wrap ((p0.getD (Int.toNat (IntKind.i64.wrap ((List.getD (v_spks p0 p1) y1.1.toNat zz0) - 1))) zz0) + (p0.getD (Int.toNat (IntKind.i64.wrap ((List.getD (v_spks p0 p1) y1.1.toNat zz0) + 1))) zz0))) / (2:Int)))))))))))))))))))) ∧(((decide (y1.1 < (((v_spks p0 p1).length:Nat):Int)))=false) →(K y1.2)))) n0 (zz0,p0))))))
theorem w_Z8_eq (p0:gF) (p1:Int) (K:(List Int)→Prop):tfn F_Z8 A_Z8 C_Z8 P_Z8 R_Z8 (p0,p1) K = w_Z8 p0 p1 K := by kernel_rfl
def st_Z8_0 (p0:gF) (p1:Int) (y0:gE):(Int×(List Int)) ⊕ (List Int) := (cond (decide (y0.1 < (((v_spks p0 p1).length:Nat):Int))) (Sum.inl ((IntKind.i64.wrap (y0.1 + 1)),(List.set y0.2 (Int.toNat (List.getD (v_spks p0 p1) y0.1.toNat (0:Int))) ((IntKind.i64.wrap ((p0.getD (Int.toNat (IntKind.i64.wrap ((List.getD (v_spks p0 p1) y0.1.toNat (0:Int)) - 1))) (0:Int)) + (p0.getD (Int.toNat (IntKind.i64.wrap ((List.getD (v_spks p0 p1) y0.1.toNat (0:Int)) + 1))) (0:Int)))) / (2:Int))))) (Sum.inr y0.2))
abbrev sp_Z8_0 (p0:gF) (p1:Int) (y0:gE):List Prop := [(((decide (y0.1 < (((v_spks p0 p1).length:Nat):Int)))=true)→((0:Int)≤y0.1)),(((decide (y0.1 < (((v_spks p0 p1).length:Nat):Int)))=true)→(y0.1 < (((v_spks p0 p1).length:Nat):Int))),(((decide (y0.1 < (((v_spks p0 p1).length:Nat):Int)))=true)→((0:Int)≤(IntKind.i64.wrap ((List.getD (v_spks p0 p1) y0.1.toNat (0:Int)) - 1)))),(((decide (y0.1 < (((v_spks p0 p1).length:Nat):Int)))=true)→((IntKind.i64.wrap ((List.getD (v_spks p0 p1) y0.1.toNat (0:Int)) - 1)) < (p0.length:Int))),(((decide (y0.1 < (((v_spks p0 p1).length:Nat):Int)))=true)→((0:Int)≤(IntKind.i64.wrap ((List.getD (v_spks p0 p1) y0.1.toNat (0:Int)) + 1)))),(((decide (y0.1 < (((v_spks p0 p1).length:Nat):Int)))=true)→((IntKind.i64.wrap ((List.getD (v_spks p0 p1) y0.1.toNat (0:Int)) + 1)) < (p0.length:Int))),(((decide (y0.1 < (((v_spks p0 p1).length:Nat):Int)))=true)→(v_fit (IntKind.i64.wrap ((p0.getD (Int.toNat (IntKind.i64.wrap ((List.getD (v_spks p0 p1) y0.1.toNat (0:Int)) - 1))) (0:Int)) + (p0.getD (Int.toNat (IntKind.i64.wrap ((List.getD (v_spks p0 p1) y0.1.toNat (0:Int)) + 1))) (0:Int)))))),(((decide (y0.1 < (((v_spks p0 p1).length:Nat):Int)))=true)→((0:Int)≤(List.getD (v_spks p0 p1) y0.1.toNat (0:Int)))),(((decide (y0.1 < (((v_spks p0 p1).length:Nat):Int)))=true)→((List.getD (v_spks p0 p1) y0.1.toNat (0:Int)) < (y0.2.length:Int)))]
def s_Z8 (p0:gF) (p1:Int):(List Int) := (lpv [] (st_Z8_0 p0 p1) ((0:Int),p0))
abbrev pre_Z8 (p0:gF) (p1:Int):List Prop := [(p0.length≤1000000),(v_ser p0),(((0:Int)≤p1)∧(p1≤200000)),(OkL (st_Z8_0 p0 p1) (sp_Z8_0 p0 p1) ((0:Int),p0))]
theorem d_Z8 (p0:gF) (p1:Int) (K:(List Int)→Prop) (hp:∀ p∈pre_Z8 p0 p1,p) (h:K (s_Z8 p0 p1)):w_Z8 p0 p1 K := by
 unfold w_Z8
 unfold s_Z8 at h
 obtain ⟨hp0,hp1,hp2,hp3,_⟩ := conj_of hp
 exact ⟨(hp0),(hp1),(hp2),(loop_gen (hp3) h (fun y0 k0 hp h => by
 unfold st_Z8_0 at h; obtain ⟨hp0,hp1,hp2,hp3,hp4,hp5,hp6,hp7,hp8,_⟩ := conj_of hp
 exact (br' h (fun e1 h => ⟨(hp0 e1),(hp1 e1),(hp0 e1),(hp1 e1),(hp2 e1),(hp3 e1),(hp0 e1),(hp1 e1),(hp4 e1),(hp5 e1),(hp6 e1),(od rfl),(hp7 e1),(hp8 e1),h⟩)
  (fun e1 h => h))))⟩
theorem l_Z8_0 (p0:gF) (p1:Int) (h:v_ser p0):OkL (st_Z8_0 p0 p1) (sp_Z8_0 p0 p1) (0,p0)∧lpv [] (st_Z8_0 p0 p1) (0,p0)=v_dsp p0 p1 := by
 have hl := h.len
 have hne := h.ne
 have hsl := v_spks_len p0 p1
 have main := @for_is (List Int) (Int×List Int) (List Int) [] (st_Z8_0 p0 p1) (sp_Z8_0 p0 p1) (fun i t => (i,t)) 0 (v_spks p0 p1).length (fun j t => t.length = p0.length∧∀ k:Nat,k < p0.length→t.getD k 0 = cond (decide ((k:Int)∈(v_spks p0 p1).take j)) ((p0.getD (k - 1) 0 + p0.getD (k + 1) 0) / 2) (p0.getD k 0)) (fun _ _ => v_dsp p0 p1) (Nat.zero_le _) (by omega) ?_ ?_ p0 ⟨rfl,fun k _ => by rw [List.take_zero]; rfl⟩
 ·exact main
 ·rintro t ⟨h1,h2⟩
  have e2:t = v_dsp p0 p1 := gd_ext 0 (by rw [v_dsp_len,h1]) fun k hk => by
   rw [v_dsp_get (by omega),h2 k (by omega),List.take_length]; rfl
  simp only [sp_Z8_0,st_Z8_0,fM,decide_eq_false (Int.lt_irrefl ((v_spks p0 p1).length:Int)),cond_false]
  refine ⟨?_,by rw [e2]⟩
  and_intros
  all_goals first
   | (intro h; cases h; done)
   | (intro p hp; cases hp)
 ·rintro j t h0 hj ⟨h1,h2⟩
  obtain ⟨i,hi,hs,he⟩ := v_spks_mem.1 (getD_mem' 0 hj)
  have hw1:IntKind.i64.wrap ((j:Int) + 1)=((j + 1:Nat):Int) := wrap_id (by omega) (by omega)
  have hw2:IntKind.i64.wrap ((i:Int) - 1)=((i - 1:Nat):Int) := by rw [wrap_id (by omega) (by omega)]; omega
  have hw3:IntKind.i64.wrap ((i:Int) + 1)=((i + 1:Nat):Int) := wrap_id (by omega) (by omega)
  have hd:decide ((j:Int) < ((v_spks p0 p1).length:Int))=true := decide_eq_true (by omega)
  have ga := v_ser_get h (show i - 1 < p0.length by omega)
  have gb := v_ser_get h (show i + 1 < p0.length by omega)
  have hw4:IntKind.i64.wrap (p0.getD (i - 1) 0 + p0.getD (i + 1) 0)=p0.getD (i - 1) 0 + p0.getD (i + 1) 0 := wrap_id (by omega) (by omega)
  have htk:(v_spks p0 p1).take (j + 1)=(v_spks p0 p1).take j ++ [(i:Int)] := by
   rw [List.take_add_one,← he,List.getD_eq_getElem?_getD,List.getElem?_eq_getElem hj]; rfl
  simp only [sp_Z8_0,st_Z8_0,fM,hd,cond_true,Int.toNat_natCast,he,hw1,hw2,hw3,hw4]
  refine ⟨?_,.inl ⟨t.set i ((p0.getD (i - 1) 0 + p0.getD (i + 1) 0) / 2),rfl,⟨by rw [List.length_set]; exact h1,fun k hk => ?_⟩,trivial⟩⟩
  ·and_intros
   all_goals first
    | (intro p hp; cases hp; done)
    | (intros; omega)
  ·rw [gd_set (by omega),htk]
   split
   ·rename_i e; subst e
    rw [decide_eq_true (by simp)]; rfl
   ·rename_i e
    rw [h2 k hk,show decide ((k:Int)∈(v_spks p0 p1).take j ++ [(i:Int)])=decide ((k:Int)∈(v_spks p0 p1).take j) by
     rw [Bool.eq_iff_iff,decide_eq_true_eq,decide_eq_true_eq,List.mem_append,List.mem_singleton]
     constructor
     ·rintro (g | g)
      ·exact g
      ·omega
     ·exact .inl]
abbrev t_Z8 (p0:gF) (p1:Int):List Int := v_dsp p0 p1
abbrev qre_Z8 (p0:gF) (p1:Int):List Prop := [v_ser p0,0≤p1∧p1≤200000]
theorem pp_Z8 (p0:gF) (p1:Int) (hq:∀ p∈qre_Z8 p0 p1,p):∀ p∈pre_Z8 p0 p1,p := by
 obtain ⟨h1,h2,_⟩ := conj_of hq
 have := h1.len
 simp only [pre_Z8,fM]
 exact ⟨by omega,h1,h2,(l_Z8_0 p0 p1 h1).1,by simp⟩
theorem tt_Z8 (p0:gF) (p1:Int) (hq:∀ p∈qre_Z8 p0 p1,p):s_Z8 p0 p1 = t_Z8 p0 p1 := by
 obtain ⟨h1,h2,_⟩ := conj_of hq
 exact (l_Z8_0 p0 p1 h1).2

abbrev con_Z8:Con := ⟨P_Z8,R_Z8,fun x => qre_Z8 x.1 x.2,fun x => t_Z8 x.1 x.2⟩
theorem ok_Z8:ConOk Try.prog 54 con_Z8 := okG k_Z8 e_Z8 hC_Z8 fun x hx => tf_of (w_Z8_eq x.1 x.2 _) (d_Z8 x.1 x.2 _ (pp_Z8 x.1 x.2 hx) (tt_Z8 x.1 x.2 hx))
def C_Z6:Cons := []
theorem hC_Z6:ConsOk Try.prog C_Z6 := ConsOk.nil
def w_Z6 (p0:gF) (p1:gF) (K:Bool→Prop):Prop := (((((p0.length:Int) != (p1.length:Int))=true) →(K false)) ∧((((p0.length:Int) != (p1.length:Int))=false) →(∃ n0,(loopP (fun (y1:Int) k2 => ((((decide (y1 < (p0.length:Int)))=true) →((zz0≤y1) ∧((y1 < (p0.length:Int)) ∧((zz0≤y1) ∧((y1 < (p1.length:Int)) ∧(((((p0.getD y1.toNat zz0) != (p1.getD y1.toNat zz0))=true) →(K false)) ∧((((p0.getD y1.toNat zz0) != (p1.getD y1.toNat zz0))=false) →(k2 (IntKind.i64.wrap (y1 + 1)))))))))) ∧(((decide (y1 < (p0.length:Int)))=false) →(K true)))) n0 zz0))))
theorem w_Z6_eq (p0:gF) (p1:gF) (K:Bool→Prop):tfn F_Z6 A_Z6 C_Z6 P_Z6 R_Z6 (p0,p1) K = w_Z6 p0 p1 K := by kernel_rfl
def st_Z6_0 (p0:gF) (p1:gF) (y1:Int):Int ⊕ Bool := (cond (decide (y1 < (p0.length:Int))) (cond ((p0.getD y1.toNat (0:Int)) != (p1.getD y1.toNat (0:Int))) (Sum.inr false) (Sum.inl (IntKind.i64.wrap (y1 + 1)))) (Sum.inr true))
abbrev sp_Z6_0 (p0:gF) (p1:gF) (y1:Int):List Prop := [(((decide (y1 < (p0.length:Int)))=true)→((0:Int)≤y1)),(((decide (y1 < (p0.length:Int)))=true)→(y1 < (p0.length:Int))),(((decide (y1 < (p0.length:Int)))=true)→(y1 < (p1.length:Int)))]
def s_Z6 (p0:gF) (p1:gF):Bool := (cond ((p0.length:Int) != (p1.length:Int)) false (lpv false (st_Z6_0 p0 p1) (0:Int)))
abbrev pre_Z6 (p0:gF) (p1:gF):List Prop := [((((p0.length:Int) != (p1.length:Int))=false)→(OkL (st_Z6_0 p0 p1) (sp_Z6_0 p0 p1) (0:Int)))]
theorem d_Z6 (p0:gF) (p1:gF) (K:Bool→Prop) (hp:∀ p∈pre_Z6 p0 p1,p) (h:K (s_Z6 p0 p1)):w_Z6 p0 p1 K := by
 unfold w_Z6
 unfold s_Z6 at h
 obtain ⟨hp0,_⟩ := conj_of hp
 exact (br' h (fun e0 h => h)
  (fun e0 h => (loop_gen (hp0 e0) h (fun y1 k1 hp h => by
 unfold st_Z6_0 at h; obtain ⟨hp0,hp1,hp2,_⟩ := conj_of hp
 exact (br' h (fun e2 h => ⟨(hp0 e2),(hp1 e2),(hp0 e2),(hp2 e2),(br' h (fun e3 h => h)
  (fun e3 h => h))⟩)
  (fun e2 h => h))))))
theorem l_Z6_0 (p0 p1:gF) (hl:lenOk p0) (he:p0.length = p1.length):OkL (st_Z6_0 p0 p1) (sp_Z6_0 p0 p1) 0∧lpv false (st_Z6_0 p0 p1) 0 = v_scan (fun i x => cond (!((x == (p1.getD i.toNat 0)))) (some false) none) true 0 p0 := by
 refine scan_is p0 0 (fun i x => cond (!((x == (p1.getD i.toNat 0)))) (some false) none) true hl ?_ ?_
 ·refine ⟨by simp only [sp_Z6_0,fM,decide_eq_true_eq]; simp,by simp [st_Z6_0]⟩
 ·intro j hj
  have hj' : (j:Int) < p0.length := by omega
  refine ⟨by simp only [sp_Z6_0,fM,decide_eq_true_eq,Int.toNat_natCast]; simp <;> omega,?_⟩
  simp only [st_Z6_0,hj',decide_true,Int.toNat_natCast,cond_true,wrap_nat (show (j:Int)≤9223372036854775806 by unfold lenOk at hl; omega)]
  generalize p0.getD j 0 = x
  generalize p1.getD j 0 = z
  simp only [bne]
  cases (x == z) <;> rfl
abbrev t_Z6 (p0 p1:gF):Bool := decide (p0 = p1)
abbrev qre_Z6 (p0 _p1:gF):List Prop := [lenOk p0]
theorem pp_Z6 (p0 p1:gF) (hq:∀ p∈qre_Z6 p0 p1,p):∀ p∈pre_Z6 p0 p1,p := by
 simp only [pre_Z6,fM]
 refine ⟨fun h => (l_Z6_0 p0 p1 (conj_of hq).1 ?_).1,by simp⟩
 have h' : (p0.length:Int)=p1.length := by simpa using h
 omega
theorem tt_Z6 (p0 p1:gF) (hq:∀ p∈qre_Z6 p0 p1,p):s_Z6 p0 p1 = t_Z6 p0 p1 := by
 unfold s_Z6 t_Z6
 by_cases h:p0.length = p1.length
 ·rw [show ((p0.length:Int) != (p1.length:Int))=false by simp [h]]
  refine (l_Z6_0 p0 p1 (conj_of hq).1 h).2.trans ?_
  exact v_scan_eq 0 (fun x y => (x == y)) (fun x y => by by_cases h:x = y <;> simp [h]) p0 p1 h
 ·rw [show ((p0.length:Int) != (p1.length:Int))=true by simp; omega]
  have:p0 ≠ p1 := fun e => h (congrArg List.length e)
  simp [this]

abbrev con_Z6:Con := ⟨P_Z6,R_Z6,fun x => qre_Z6 x.1 x.2,fun x => t_Z6 x.1 x.2⟩
theorem ok_Z6:ConOk Try.prog 39 con_Z6 := okG k_Z6 e_Z6 hC_Z6 fun x hx => tf_of (w_Z6_eq x.1 x.2 _) (d_Z6 x.1 x.2 _ (pp_Z6 x.1 x.2 hx) (tt_Z6 x.1 x.2 hx))
def C_Z0:Cons := [(13,[],con_Zm),(46,ownMark,con_Ze),(53,[],con_Z3),(48,[],con_Z7),(17,[],con_Z2),(54,[],con_Z8),(39,[],con_Z6),(55,[],con_Z5)]
theorem hC_Z0:ConsOk Try.prog C_Z0 := cC ok_Zm <| ConsOk.consO ok_Ze <| cC ok_Z3 <| cC ok_Z7 <| cC ok_Z2 <| cC ok_Z8 <| cC ok_Z6 <| cC ok_Z5 <| ConsOk.nil
abbrev q0_Z0 (p0:gF) (p1:Int) := (cond ((v_desp p0 p1).2.2 != zz0) true (!(decide ((v_desp p0 p1).1 = (v_dsp p0 p1)))))
abbrev q1_Z0 (p0:gF) (p1:Int) := (((v_desp p0 p1).2.2 != zz0)=((v_desp p0 p1).2.2 != zz0))
abbrev q2_Z0 (p0:gF) (p1:Int) := ((q0_Z0 p0 p1)=(q0_Z0 p0 p1))
abbrev q3_Z0 (p0:gF) (p1:Int) (y1:Int) := (List.getD (v_desp p0 p1).2.1 y1.toNat zz0)
abbrev q4_Z0 (p0:gF) (p1:Int) (y4:Int) := (List.getD (v_desp p0 p1).2.1 y4.toNat zz0)
def w_Z0 (p0:gF) (p1:Int) (K:Bool→Prop):Prop := ((((!(s_Zm))=true) →(K false)) ∧(((!(s_Zm))=false) →((((decide ((p0.length:Int) > 42))=true) →(K true)) ∧(((decide ((p0.length:Int) > 42))=false) →((p0.length≤1000000) ∧((lenOk p0) ∧(((((v_serr p0) == zz0)=true) →(((v_serr p0) == zz0)=((v_serr p0) == zz0))) ∧(((((v_serr p0) == zz0)=true) →(((v_serr p0) == zz0)=((v_serr p0) == zz0))) ∧((((v_serr p0) == zz0)=((v_serr p0) == zz0)) ∧((((cond ((v_serr p0) == zz0) (!(s_Z2 p1 zz0 (200000:Int))) false)=true) →((((zz2 != zz0)=true) →(((((v_desp p0 p1).2.2 == zz2)=true) →(((v_desp p0 p1).2.2 == zz2)=((v_desp p0 p1).2.2 == zz2))) ∧(((((v_desp p0 p1).2.2 == zz2)=true) →(((v_desp p0 p1).2.2 == zz2)=((v_desp p0 p1).2.2 == zz2))) ∧(((((v_desp p0 p1).2.2 == zz2)=true) →(((v_desp p0 p1).2.2 == zz2)=((v_desp p0 p1).2.2 == zz2))) ∧(((((v_desp p0 p1).2.2 == zz2)=true) →(((v_desp p0 p1).2.2 == zz2)=((v_desp p0 p1).2.2 == zz2))) ∧(((((v_desp p0 p1).2.2 == zz2)=true) →(((v_desp p0 p1).2.2 == zz2)=((v_desp p0 p1).2.2 == zz2))) ∧((((v_desp p0 p1).2.2 == zz2)=((v_desp p0 p1).2.2 == zz2)) ∧(K (cond ((v_desp p0 p1).2.2 == zz2) ((wi ((((v_desp p0 p1).1.length:Nat):Int) + (((v_desp p0 p1).2.1.length:Nat):Int))) == zz0) false))))))))) ∧(((zz2 != zz0)=false) →(((((v_desp p0 p1).2.2 != zz0)=false) →(q1_Z0 p0 p1)) ∧(((((v_desp p0 p1).2.2 != zz0)=false) →(q1_Z0 p0 p1)) ∧(((((v_desp p0 p1).2.2 != zz0)=false) →(v_ser p0)) ∧(((((v_desp p0 p1).2.2 != zz0)=false) →((zz0≤p1) ∧(p1≤200000))) ∧(((((v_desp p0 p1).2.2 != zz0)=false) →(q1_Z0 p0 p1)) ∧(((((v_desp p0 p1).2.2 != zz0)=false) →(q1_Z0 p0 p1)) ∧(((((v_desp p0 p1).2.2 != zz0)=false) →(lenOk (v_desp p0 p1).1)) ∧(((((v_desp p0 p1).2.2 != zz0)=false) →(q1_Z0 p0 p1)) ∧((q1_Z0 p0 p1) ∧((((q0_Z0 p0 p1)=false) →(q2_Z0 p0 p1)) ∧((((q0_Z0 p0 p1)=false) →(q2_Z0 p0 p1)) ∧((((q0_Z0 p0 p1)=false) →(v_ser p0)) ∧((((q0_Z0 p0 p1)=false) →((zz0≤p1) ∧(p1≤200000))) ∧((((q0_Z0 p0 p1)=false) →(q2_Z0 p0 p1)) ∧((((q0_Z0 p0 p1)=false) →(q2_Z0 p0 p1)) ∧((((q0_Z0 p0 p1)=false) →(lenOk (v_desp p0 p1).2.1)) ∧((((q0_Z0 p0 p1)=false) →(q2_Z0 p0 p1)) ∧((q2_Z0 p0 p1) ∧((((cond (q0_Z0 p0 p1) true (!(decide ((v_desp p0 p1).2.1 = (v_spks p0 p1)))))=true) →(K false)) ∧(((cond (q0_Z0 p0 p1) true (!(decide ((v_desp p0 p1).2.1 = (v_spks p0 p1)))))=false) →(∃ n0,(loopP (fun (y1:Int) k2 => ((((decide (y1 < (((v_desp p0 p1).2.1.length:Nat):Int)))=true) →((zz0≤y1) ∧((y1 < (((v_desp p0 p1).2.1.length:Nat):Int)) ∧((zz0≤(wi ((q3_Z0 p0 p1 y1) - zz1))) ∧(((wi ((q3_Z0 p0 p1 y1) - zz1)) < (p0.length:Int)) ∧((zz0≤y1) ∧((y1 < (((v_desp p0 p1).2.1.length:Nat):Int)) ∧((zz0≤(wi ((q3_Z0 p0 p1 y1) + zz1))) ∧(((wi ((q3_Z0 p0 p1 y1) + zz1)) < (p0.length:Int)) ∧((zz0≤y1) ∧((y1 < (((v_desp p0 p1).2.1.length:Nat):Int)) ∧((zz0≤(q3_Z0 p0 p1 y1)) ∧(((q3_Z0 p0 p1 y1) < (((v_desp p0 p1).1.length:Nat):Int)) ∧((((!(s_Z2 (List.getD (v_desp p0 p1).1 (Int.toNat (q3_Z0 p0 p1 y1)) zz0) (min (p0.getD (Int.toNat (wi ((q3_Z0 p0 p1 y1) - zz1))) zz0) (p0.getD (Int.toNat (wi ((q3_Z0 p0 p1 y1) + zz1))) zz0)) (max (p0.getD (Int.toNat (wi ((q3_Z0 p0 p1 y1) - zz1))) zz0) (p0.getD (Int.toNat (wi ((q3_Z0 p0 p1 y1) + zz1))) zz0))))=true) →(K false)) ∧(((!(s_Z2 (List.getD (v_desp p0 p1).1 (Int.toNat (q3_Z0 p0 p1 y1)) zz0) (min (p0.getD (Int.toNat (wi ((q3_Z0 p0 p1 y1) - zz1))) zz0) (p0.getD (Int.toNat (wi ((q3_Z0 p0 p1 y1) + zz1))) zz0)) (max (p0.getD (Int.toNat (wi ((q3_Z0 p0 p1 y1) - zz1))) zz0) (p0.getD (Int.toNat (wi ((q3_Z0 p0 p1 y1) + zz1))) zz0))))=false) →(k2 (wi (y1 + zz1)))))))))))))))))) ∧(((decide (y1 < (((v_desp p0 p1).2.1.length:Nat):Int)))=false) →(K true)))) n0 zz0))))))))))))))))))))))))) ∧(((cond ((v_serr p0) == zz0) (!(s_Z2 p1 zz0 (200000:Int))) false)=false) →(((((v_serr p0) != zz0)=true) →(((((v_desp p0 p1).2.2 == (v_serr p0))=true) →(((v_desp p0 p1).2.2 == (v_serr p0))=((v_desp p0 p1).2.2 == (v_serr p0)))) ∧(((((v_desp p0 p1).2.2 == (v_serr p0))=true) →(((v_desp p0 p1).2.2 == (v_serr p0))=((v_desp p0 p1).2.2 == (v_serr p0)))) ∧(((((v_desp p0 p1).2.2 == (v_serr p0))=true) →(((v_desp p0 p1).2.2 == (v_serr p0))=((v_desp p0 p1).2.2 == (v_serr p0)))) ∧(((((v_desp p0 p1).2.2 == (v_serr p0))=true) →(((v_desp p0 p1).2.2 == (v_serr p0))=((v_desp p0 p1).2.2 == (v_serr p0)))) ∧(((((v_desp p0 p1).2.2 == (v_serr p0))=true) →(((v_desp p0 p1).2.2 == (v_serr p0))=((v_desp p0 p1).2.2 == (v_serr p0)))) ∧((((v_desp p0 p1).2.2 == (v_serr p0))=((v_desp p0 p1).2.2 == (v_serr p0))) ∧(K (cond ((v_desp p0 p1).2.2 == (v_serr p0)) ((wi ((((v_desp p0 p1).1.length:Nat):Int) + (((v_desp p0 p1).2.1.length:Nat):Int))) == zz0) false))))))))) ∧((((v_serr p0) != zz0)=false) →(((((v_desp p0 p1).2.2 != zz0)=false) →(q1_Z0 p0 p1)) ∧(((((v_desp p0 p1).2.2 != zz0)=false) →(q1_Z0 p0 p1)) ∧(((((v_desp p0 p1).2.2 != zz0)=false) →(v_ser p0)) ∧(((((v_desp p0 p1).2.2 != zz0)=false) →((zz0≤p1) ∧(p1≤200000))) ∧(((((v_desp p0 p1).2.2 != zz0)=false) →(q1_Z0 p0 p1)) ∧(((((v_desp p0 p1).2.2 != zz0)=false) →(q1_Z0 p0 p1)) ∧(((((v_desp p0 p1).2.2 != zz0)=false) →(lenOk (v_desp p0 p1).1)) ∧(((((v_desp p0 p1).2.2 != zz0)=false) →(q1_Z0 p0 p1)) ∧((q1_Z0 p0 p1) ∧((((q0_Z0 p0 p1)=false) →(q2_Z0 p0 p1)) ∧((((q0_Z0 p0 p1)=false) →(q2_Z0 p0 p1)) ∧((((q0_Z0 p0 p1)=false) →(v_ser p0)) ∧((((q0_Z0 p0 p1)=false) →((zz0≤p1) ∧(p1≤200000))) ∧((((q0_Z0 p0 p1)=false) →(q2_Z0 p0 p1)) ∧((((q0_Z0 p0 p1)=false) →(q2_Z0 p0 p1)) ∧((((q0_Z0 p0 p1)=false) →(lenOk (v_desp p0 p1).2.1)) ∧((((q0_Z0 p0 p1)=false) →(q2_Z0 p0 p1)) ∧((q2_Z0 p0 p1) ∧((((cond (q0_Z0 p0 p1) true (!(decide ((v_desp p0 p1).2.1 = (v_spks p0 p1)))))=true) →(K false)) ∧(((cond (q0_Z0 p0 p1) true (!(decide ((v_desp p0 p1).2.1 = (v_spks p0 p1)))))=false) →(∃ n3,(loopP (fun (y4:Int) k5 => ((((decide (y4 < (((v_desp p0 p1).2.1.length:Nat):Int)))=true) →((zz0≤y4) ∧((y4 < (((v_desp p0 p1).2.1.length:Nat):Int)) ∧((zz0≤(wi ((q4_Z0 p0 p1 y4) - zz1))) ∧(((wi ((q4_Z0 p0 p1 y4) - zz1)) < (p0.length:Int)) ∧((zz0≤y4) ∧((y4 < (((v_desp p0 p1).2.1.length:Nat):Int)) ∧((zz0≤(wi ((q4_Z0 p0 p1 y4) + zz1))) ∧(((wi ((q4_Z0 p0 p1 y4) + zz1)) < (p0.length:Int)) ∧((zz0≤y4) ∧((y4 < (((v_desp p0 p1).2.1.length:Nat):Int)) ∧((zz0≤(q4_Z0 p0 p1 y4)) ∧(((q4_Z0 p0 p1 y4) < (((v_desp p0 p1).1.length:Nat):Int)) ∧((((!(s_Z2 (List.getD (v_desp p0 p1).1 (Int.toNat (q4_Z0 p0 p1 y4)) zz0) (min (p0.getD (Int.toNat (wi ((q4_Z0 p0 p1 y4) - zz1))) zz0) (p0.getD (Int.toNat (wi ((q4_Z0 p0 p1 y4) + zz1))) zz0)) (max (p0.getD (Int.toNat (wi ((q4_Z0 p0 p1 y4) - zz1))) zz0) (p0.getD (Int.toNat (wi ((q4_Z0 p0 p1 y4) + zz1))) zz0))))=true) →(K false)) ∧(((!(s_Z2 (List.getD (v_desp p0 p1).1 (Int.toNat (q4_Z0 p0 p1 y4)) zz0) (min (p0.getD (Int.toNat (wi ((q4_Z0 p0 p1 y4) - zz1))) zz0) (p0.getD (Int.toNat (wi ((q4_Z0 p0 p1 y4) + zz1))) zz0)) (max (p0.getD (Int.toNat (wi ((q4_Z0 p0 p1 y4) - zz1))) zz0) (p0.getD (Int.toNat (wi ((q4_Z0 p0 p1 y4) + zz1))) zz0))))=false) →(k5 (wi (y4 + zz1)))))))))))))))))) ∧(((decide (y4 < (((v_desp p0 p1).2.1.length:Nat):Int)))=false) →(K true)))) n3 zz0)))))))))))))))))))))))))))))))))))
theorem w_Z0_eq (p0:gF) (p1:Int) (K:Bool→Prop):tfn F_Z0 A_Z0 C_Z0 P_Z0 R_Z0 (p0,p1) K = w_Z0 p0 p1 K := by kernel_rfl
def st_Z0_0 (p0:gF) (p1:Int) (y4:Int):Int ⊕ Bool := (cond (decide (y4 < (((v_desp p0 p1).2.1.length:Nat):Int))) (cond (!(s_Z2 (List.getD (v_desp p0 p1).1 (Int.toNat (List.getD (v_desp p0 p1).2.1 y4.toNat (0:Int))) (0:Int)) (min (p0.getD (Int.toNat (IntKind.i64.wrap ((List.getD (v_desp p0 p1).2.1 y4.toNat (0:Int)) - 1))) (0:Int)) (p0.getD (Int.toNat (IntKind.i64.wrap ((List.getD (v_desp p0 p1).2.1 y4.toNat (0:Int)) + 1))) (0:Int))) (max (p0.getD (Int.toNat (IntKind.i64.wrap ((List.getD (v_desp p0 p1).2.1 y4.toNat (0:Int)) - 1))) (0:Int)) (p0.getD (Int.toNat (IntKind.i64.wrap ((List.getD (v_desp p0 p1).2.1 y4.toNat (0:Int)) + 1))) (0:Int))))) (Sum.inr false) (Sum.inl (IntKind.i64.wrap (y4 + 1)))) (Sum.inr true))
abbrev sp_Z0_0 (p0:gF) (p1:Int) (y4:Int):List Prop := [(((decide (y4 < (((v_desp p0 p1).2.1.length:Nat):Int)))=true)→((0:Int)≤y4)),(((decide (y4 < (((v_desp p0 p1).2.1.length:Nat):Int)))=true)→(y4 < (((v_desp p0 p1).2.1.length:Nat):Int))),(((decide (y4 < (((v_desp p0 p1).2.1.length:Nat):Int)))=true)→((0:Int)≤(IntKind.i64.wrap ((List.getD (v_desp p0 p1).2.1 y4.toNat (0:Int)) - 1)))),(((decide (y4 < (((v_desp p0 p1).2.1.length:Nat):Int)))=true)→((IntKind.i64.wrap ((List.getD (v_desp p0 p1).2.1 y4.toNat (0:Int)) - 1)) < (p0.length:Int))),(((decide (y4 < (((v_desp p0 p1).2.1.length:Nat):Int)))=true)→((0:Int)≤(IntKind.i64.wrap ((List.getD (v_desp p0 p1).2.1 y4.toNat (0:Int)) + 1)))),(((decide (y4 < (((v_desp p0 p1).2.1.length:Nat):Int)))=true)→((IntKind.i64.wrap ((List.getD (v_desp p0 p1).2.1 y4.toNat (0:Int)) + 1)) < (p0.length:Int))),(((decide (y4 < (((v_desp p0 p1).2.1.length:Nat):Int)))=true)→((0:Int)≤(List.getD (v_desp p0 p1).2.1 y4.toNat (0:Int)))),(((decide (y4 < (((v_desp p0 p1).2.1.length:Nat):Int)))=true)→((List.getD (v_desp p0 p1).2.1 y4.toNat (0:Int)) < (((v_desp p0 p1).1.length:Nat):Int)))]
def s_Z0 (p0:gF) (p1:Int):Bool := (cond (decide ((p0.length:Int) > 42)) true (cond (cond ((v_serr p0) == 0) (!(s_Z2 p1 (0:Int) (200000:Int))) false) (cond ((v_desp p0 p1).2.2 == 2) ((IntKind.i64.wrap ((((v_desp p0 p1).1.length:Nat):Int) + (((v_desp p0 p1).2.1.length:Nat):Int))) == 0) false) (cond ((v_serr p0) != 0) (cond ((v_desp p0 p1).2.2 == (v_serr p0)) ((IntKind.i64.wrap ((((v_desp p0 p1).1.length:Nat):Int) + (((v_desp p0 p1).2.1.length:Nat):Int))) == 0) false) (cond (cond (cond ((v_desp p0 p1).2.2 != 0) true (!(decide ((v_desp p0 p1).1 = (v_dsp p0 p1))))) true (!(decide ((v_desp p0 p1).2.1 = (v_spks p0 p1))))) false (lpv false (st_Z0_0 p0 p1) (0:Int))))))
abbrev pre_Z0 (p0:gF) (p1:Int):List Prop := [(((decide ((p0.length:Int) > 42))=false)→(p0.length≤1000000)),(((decide ((p0.length:Int) > 42))=false)→(lenOk p0)),(((decide ((p0.length:Int) > 42))=false)→(((cond ((v_serr p0) == 0) (!(s_Z2 p1 (0:Int) (200000:Int))) false)=false)→((((v_serr p0) != 0)=false)→((((v_desp p0 p1).2.2 != 0)=false)→(v_ser p0))))),(((decide ((p0.length:Int) > 42))=false)→(((cond ((v_serr p0) == 0) (!(s_Z2 p1 (0:Int) (200000:Int))) false)=false)→((((v_serr p0) != 0)=false)→((((v_desp p0 p1).2.2 != 0)=false)→(((0:Int)≤p1)∧(p1≤200000)))))),(((decide ((p0.length:Int) > 42))=false)→(((cond ((v_serr p0) == 0) (!(s_Z2 p1 (0:Int) (200000:Int))) false)=false)→((((v_serr p0) != 0)=false)→((((v_desp p0 p1).2.2 != 0)=false)→(lenOk (v_desp p0 p1).1))))),(((decide ((p0.length:Int) > 42))=false)→(((cond ((v_serr p0) == 0) (!(s_Z2 p1 (0:Int) (200000:Int))) false)=false)→((((v_serr p0) != 0)=false)→(((cond ((v_desp p0 p1).2.2 != 0) true (!(decide ((v_desp p0 p1).1 = (v_dsp p0 p1)))))=false)→(v_ser p0))))),(((decide ((p0.length:Int) > 42))=false)→(((cond ((v_serr p0) == 0) (!(s_Z2 p1 (0:Int) (200000:Int))) false)=false)→((((v_serr p0) != 0)=false)→(((cond ((v_desp p0 p1).2.2 != 0) true (!(decide ((v_desp p0 p1).1 = (v_dsp p0 p1)))))=false)→(((0:Int)≤p1)∧(p1≤200000)))))),(((decide ((p0.length:Int) > 42))=false)→(((cond ((v_serr p0) == 0) (!(s_Z2 p1 (0:Int) (200000:Int))) false)=false)→((((v_serr p0) != 0)=false)→(((cond ((v_desp p0 p1).2.2 != 0) true (!(decide ((v_desp p0 p1).1 = (v_dsp p0 p1)))))=false)→(lenOk (v_desp p0 p1).2.1))))),(((decide ((p0.length:Int) > 42))=false)→(((cond ((v_serr p0) == 0) (!(s_Z2 p1 (0:Int) (200000:Int))) false)=false)→((((v_serr p0) != 0)=false)→(((cond (cond ((v_desp p0 p1).2.2 != 0) true (!(decide ((v_desp p0 p1).1 = (v_dsp p0 p1))))) true (!(decide ((v_desp p0 p1).2.1 = (v_spks p0 p1)))))=false)→(OkL (st_Z0_0 p0 p1) (sp_Z0_0 p0 p1) (0:Int))))))]
theorem d_Z0 (p0:gF) (p1:Int) (K:Bool→Prop) (hp:∀ p∈pre_Z0 p0 p1,p) (h:K (s_Z0 p0 p1)):w_Z0 p0 p1 K := by
 unfold w_Z0
 unfold s_Z0 at h
 obtain ⟨hp0,hp1,hp2,hp3,hp4,hp5,hp6,hp7,hp8,_⟩ := conj_of hp
 exact ⟨nof,fun _ => (br' h (fun e0 h => h)
  (fun e0 h => ⟨(hp0 e0),(hp1 e0),rf,rf,rfl,(br' h (fun e1 h => ⟨fun _ => ⟨rf,rf,rf,rf,rf,rfl,h⟩,fun e => Bool.noConfusion (show true = false from e)⟩)
  (fun e1 h => (br' h (fun e2 h => ⟨rf,rf,rf,rf,rf,rfl,h⟩)
  (fun e2 h => ⟨rf,rf,(hp2 e0 e1 e2),(hp3 e0 e1 e2),rf,rf,(hp4 e0 e1 e2),rf,rfl,rf,rf,(hp5 e0 e1 e2),(hp6 e0 e1 e2),rf,rf,(hp7 e0 e1 e2),rf,rfl,(br' h (fun e3 h => h)
  (fun e3 h => (loop_gen (hp8 e0 e1 e2 e3) h (fun y4 k4 hp h => by
 unfold st_Z0_0 at h; obtain ⟨hp0,hp1,hp2,hp3,hp4,hp5,hp6,hp7,_⟩ := conj_of hp
 exact (br' h (fun e5 h => ⟨(hp0 e5),(hp1 e5),(hp2 e5),(hp3 e5),(hp0 e5),(hp1 e5),(hp4 e5),(hp5 e5),(hp0 e5),(hp1 e5),(hp6 e5),(hp7 e5),(br' h (fun e6 h => h)
  (fun e6 h => h))⟩)
  (fun e5 h => h))))))⟩))))⟩))⟩
abbrev con_Z0:Con := ⟨P_Z0,R_Z0,fun x => pre_Z0 x.1 x.2,fun x => s_Z0 x.1 x.2⟩
theorem ok_Z0:ConOk Try.prog 11 con_Z0 := okG k_Z0 e_Z0 hC_Z0 fun x hx => tf_of (w_Z0_eq x.1 x.2 _) (d_Z0 x.1 x.2 _ hx rfl)
end Go.Proofs.Ytdkhhafmidokmaa
