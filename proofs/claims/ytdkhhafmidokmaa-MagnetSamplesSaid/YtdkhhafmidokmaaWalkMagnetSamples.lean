/- What the functions that MagnetSamples reaches compute: contracts, each function once. No condition. -/
import Derived.Test.YtdkhhafmidokmaaLayB
import Derived.Test.YtdkhhafmidokmaaAwMMagnetSamples
import Derived.KernelRfl
namespace Go.Proofs.Ytdkhhafmidokmaa
open Go Go.Mx
set_option maxRecDepth 100000
set_option maxHeartbeats 4000000
abbrev gF:=List Int
abbrev gG:=Int×Int
abbrev gA:=List (List Int×List Int)
abbrev gB:=List (Int×Int×Int)
abbrev gC:=List (Int×Int)
abbrev gE:=Int×List Int
abbrev gD:=(Int×List Int)×(Int×List Int)
theorem fM.{u} {α:Type u} {p:α→Prop} {a:α} {l:List α}:(∀ x∈a::l,p x) ↔ p a ∧ ∀ x∈l,p x := List.forall_mem_cons
theorem cC {P:Program} {f:FuncId} {ids:List FuncId} {c:Con} {C:Cons} (h:ConOk P f c) (hC:ConsOk P C) (hm:isMark ids=false := by rfl):ConsOk P ((f,ids,c)::C) := ConsOk.cons h hC hm
theorem okG {P:Program} {f:FuncId} {F:TFn} {A:Nat→Ty} {C:Cons} {ps rs:List PSh} {pre:(tyPs ps).den→List Prop} {s:(tyPs ps).den→(tyPs rs).den} (k:callable P f=true) (e:cFn P f=some F.erase) (hC:ConsOk P C) (h:∀ x,(∀ p∈pre x,p)→Tf F A C ps rs x (fun z => z=s x)):ConOk P f ⟨ps,rs,pre,s⟩ := ⟨k,fun x hx => ret_tf e hC (h x hx)⟩
abbrev wi (n:Int):Int := IntKind.i64.wrap n
abbrev zz0:Int := 0
abbrev zz1:Int := 1
abbrev zz2:Int := 2
theorem nof {p:Prop} (h:false = true):p := Bool.noConfusion h
theorem rf {p:Prop} {α:Sort _} {a:α} (_:p):a = a := rfl
def C_Zi:Cons := []
theorem hC_Zi:ConsOk Try.prog C_Zi := ConsOk.nil
def w_Zi (p0:(List (Int×(Int×(Int×(Int×Int)))))) (K:Bool→Prop):Prop := (K (decide ((p0.length:Int)≤22)))
theorem w_Zi_eq (p0:(List (Int×(Int×(Int×(Int×Int)))))) (K:Bool→Prop):tfn F_Zi A_Zi C_Zi P_Zi R_Zi p0 K = w_Zi p0 K := by kernel_rfl
def s_Zi (p0:(List (Int×(Int×(Int×(Int×Int)))))):Bool := (decide ((p0.length:Int)≤22))
abbrev pre_Zi (_p0:(List (Int×(Int×(Int×(Int×Int)))))):List Prop := []
theorem d_Zi (p0:(List (Int×(Int×(Int×(Int×Int)))))) (K:Bool→Prop) (_hp:∀ p∈pre_Zi p0,p) (h:K (s_Zi p0)):w_Zi p0 K := by
 unfold w_Zi
 unfold s_Zi at h
 exact h
abbrev con_Zi:Con := ⟨P_Zi,R_Zi,fun x => pre_Zi x,fun x => s_Zi x⟩
theorem ok_Zi:ConOk Try.prog 20 con_Zi := okG k_Zi e_Zi hC_Zi fun x hx => tf_of (w_Zi_eq x _) (d_Zi x _ hx rfl)
def C_Zj:Cons := []
theorem hC_Zj:ConsOk Try.prog C_Zj := ConsOk.nil
def w_Zj (p0:(List (Int×(Int×(Int×(Int×Int)))))) (K:(List (Int×(Int×(Int×(Int×Int)))))→Prop):Prop := (((((List.length ([]:List (Int×(Int×(Int×(Int×Int)))))) + p0.length) * 40)≤140737488355328) ∧(K (([]:List (Int×(Int×(Int×(Int×Int))))) ++ p0)))
theorem w_Zj_eq (p0:(List (Int×(Int×(Int×(Int×Int)))))) (K:(List (Int×(Int×(Int×(Int×Int)))))→Prop):tfn F_Zj A_Zj C_Zj P_Zj R_Zj p0 K = w_Zj p0 K := by kernel_rfl
def s_Zj (p0:(List (Int×(Int×(Int×(Int×Int)))))):(List (Int×(Int×(Int×(Int×Int))))) := (([]:List (Int×(Int×(Int×(Int×Int))))) ++ p0)
abbrev pre_Zj (p0:(List (Int×(Int×(Int×(Int×Int)))))):List Prop := [((((List.length ([]:List (Int×(Int×(Int×(Int×Int)))))) + p0.length) * 40)≤140737488355328)]
theorem d_Zj (p0:(List (Int×(Int×(Int×(Int×Int)))))) (K:(List (Int×(Int×(Int×(Int×Int)))))→Prop) (hp:∀ p∈pre_Zj p0,p) (h:K (s_Zj p0)):w_Zj p0 K := by
 unfold w_Zj
 unfold s_Zj at h
 obtain ⟨hp0,_⟩ := conj_of hp
 exact ⟨(hp0),h⟩
abbrev con_Zj:Con := ⟨P_Zj,R_Zj,fun x => pre_Zj x,fun x => s_Zj x⟩
theorem ok_Zj:ConOk Try.prog 22 con_Zj := okG k_Zj e_Zj hC_Zj fun x hx => tf_of (w_Zj_eq x _) (d_Zj x _ hx rfl)
def C_Z3:Cons := []
theorem hC_Z3:ConsOk Try.prog C_Z3 := ConsOk.nil
def w_Z3 (p0:Int) (p1:Int) (p2:Int) (K:Bool→Prop):Prop := ((((decide (p1≤p0))=true) →((decide (p1≤p0))=(decide (p1≤p0)))) ∧((((decide (p1≤p0))=true) →((decide (p1≤p0))=(decide (p1≤p0)))) ∧(((decide (p1≤p0))=(decide (p1≤p0))) ∧(K (cond (decide (p1≤p0)) (decide (p0≤p2)) false)))))
theorem w_Z3_eq (p0:Int) (p1:Int) (p2:Int) (K:Bool→Prop):tfn F_Z3 A_Z3 C_Z3 P_Z3 R_Z3 (p0,p1,p2) K = w_Z3 p0 p1 p2 K := by kernel_rfl
def s_Z3 (p0:Int) (p1:Int) (p2:Int):Bool := (cond (decide (p1≤p0)) (decide (p0≤p2)) false)
abbrev pre_Z3 (_p0:Int) (_p1:Int) (_p2:Int):List Prop := []
theorem d_Z3 (p0:Int) (p1:Int) (p2:Int) (K:Bool→Prop) (_hp:∀ p∈pre_Z3 p0 p1 p2,p) (h:K (s_Z3 p0 p1 p2)):w_Z3 p0 p1 p2 K := by
 unfold w_Z3
 unfold s_Z3 at h
 exact ⟨rf,rf,rfl,h⟩
abbrev con_Z3:Con := ⟨P_Z3,R_Z3,fun x => pre_Z3 x.1 x.2.1 x.2.2,fun x => s_Z3 x.1 x.2.1 x.2.2⟩
theorem ok_Z3:ConOk Try.prog 17 con_Z3 := okG k_Z3 e_Z3 hC_Z3 fun x hx => tf_of (w_Z3_eq x.1 x.2.1 x.2.2 _) (d_Z3 x.1 x.2.1 x.2.2 _ hx rfl)
theorem tx_within {n lo hi:Int}:s_Z3 n lo hi = true ↔ lo≤n∧n≤hi := by unfold s_Z3; simp
def C_Zf:Cons := [(17,[],con_Z3)]
theorem hC_Zf:ConsOk Try.prog C_Zf := cC ok_Z3 <| ConsOk.nil
def w_Zf (p0:Int) (K:Bool→Prop):Prop := (K (s_Z3 p0 zz0 (1000000000000:Int)))
theorem w_Zf_eq (p0:Int) (K:Bool→Prop):tfn F_Zf A_Zf C_Zf P_Zf R_Zf p0 K = w_Zf p0 K := by kernel_rfl
def s_Zf (p0:Int):Bool := (s_Z3 p0 (0:Int) (1000000000000:Int))
abbrev pre_Zf (_p0:Int):List Prop := []
theorem d_Zf (p0:Int) (K:Bool→Prop) (_hp:∀ p∈pre_Zf p0,p) (h:K (s_Zf p0)):w_Zf p0 K := by
 unfold w_Zf
 unfold s_Zf at h
 exact h
abbrev con_Zf:Con := ⟨P_Zf,R_Zf,fun x => pre_Zf x,fun x => s_Zf x⟩
theorem ok_Zf:ConOk Try.prog 88 con_Zf := okG k_Zf e_Zf hC_Zf fun x hx => tf_of (w_Zf_eq x _) (d_Zf x _ hx rfl)
def C_Zg:Cons := [(17,[],con_Z3)]
theorem hC_Zg:ConsOk Try.prog C_Zg := cC ok_Z3 <| ConsOk.nil
def w_Zg (p0:Int) (K:Bool→Prop):Prop := (K (s_Z3 p0 (-10:Int) (10:Int)))
theorem w_Zg_eq (p0:Int) (K:Bool→Prop):tfn F_Zg A_Zg C_Zg P_Zg R_Zg p0 K = w_Zg p0 K := by kernel_rfl
def s_Zg (p0:Int):Bool := (s_Z3 p0 (-10:Int) (10:Int))
abbrev pre_Zg (_p0:Int):List Prop := []
theorem d_Zg (p0:Int) (K:Bool→Prop) (_hp:∀ p∈pre_Zg p0,p) (h:K (s_Zg p0)):w_Zg p0 K := by
 unfold w_Zg
 unfold s_Zg at h
 exact h
abbrev con_Zg:Con := ⟨P_Zg,R_Zg,fun x => pre_Zg x,fun x => s_Zg x⟩
theorem ok_Zg:ConOk Try.prog 89 con_Zg := okG k_Zg e_Zg hC_Zg fun x hx => tf_of (w_Zg_eq x _) (d_Zg x _ hx rfl)
def C_Zh:Cons := [(17,[],con_Z3)]
theorem hC_Zh:ConsOk Try.prog C_Zh := cC ok_Z3 <| ConsOk.nil
def w_Zh (p0:Int) (K:Bool→Prop):Prop := (K (s_Z3 p0 (-100000:Int) (100000:Int)))
theorem w_Zh_eq (p0:Int) (K:Bool→Prop):tfn F_Zh A_Zh C_Zh P_Zh R_Zh p0 K = w_Zh p0 K := by kernel_rfl
def s_Zh (p0:Int):Bool := (s_Z3 p0 (-100000:Int) (100000:Int))
abbrev pre_Zh (_p0:Int):List Prop := []
theorem d_Zh (p0:Int) (K:Bool→Prop) (_hp:∀ p∈pre_Zh p0,p) (h:K (s_Zh p0)):w_Zh p0 K := by
 unfold w_Zh
 unfold s_Zh at h
 exact h
abbrev con_Zh:Con := ⟨P_Zh,R_Zh,fun x => pre_Zh x,fun x => s_Zh x⟩
theorem ok_Zh:ConOk Try.prog 90 con_Zh := okG k_Zh e_Zh hC_Zh fun x hx => tf_of (w_Zh_eq x _) (d_Zh x _ hx rfl)
def C_Z2:Cons := [(88,[],con_Zf),(89,[],con_Zg),(90,[],con_Zh)]
theorem hC_Z2:ConsOk Try.prog C_Z2 := cC ok_Zf <| cC ok_Zg <| cC ok_Zh <| ConsOk.nil
abbrev q3_Z2 (p0:(List (Int×(Int×(Int×(Int×Int)))))) (y1:Int) := (!(s_Z3 (p0.getD y1.toNat (zz0,(zz0,(zz0,(zz0,zz0))))).1 zz0 (1000000000000:Int)))
abbrev q1_Z2 (p0:(List (Int×(Int×(Int×(Int×Int)))))) (y1:Int) := (cond (q3_Z2 p0 y1) true (!(s_Z3 (p0.getD y1.toNat (zz0,(zz0,(zz0,(zz0,zz0))))).2.1 (-10:Int) (10:Int))))
abbrev q0_Z2 (p0:(List (Int×(Int×(Int×(Int×Int)))))) (y1:Int) := (cond (q1_Z2 p0 y1) true (!(s_Z3 (p0.getD y1.toNat (zz0,(zz0,(zz0,(zz0,zz0))))).2.2.1 (-10:Int) (10:Int))))
abbrev q2_Z2 (p0:(List (Int×(Int×(Int×(Int×Int)))))) (y1:Int) := (cond (q0_Z2 p0 y1) true (!(s_Z3 (p0.getD y1.toNat (zz0,(zz0,(zz0,(zz0,zz0))))).2.2.2.1 (-10:Int) (10:Int))))
def w_Z2 (p0:(List (Int×(Int×(Int×(Int×Int)))))) (K:(Int×Int)→Prop):Prop := (((((p0.length:Int) == zz0)=true) →(K (zz0,(10:Int)))) ∧((((p0.length:Int) == zz0)=false) →((((decide ((p0.length:Int) > 20))=true) →(K (zz0,(8:Int)))) ∧(((decide ((p0.length:Int) > 20))=false) →(∃ n0,(loopP (fun (y1:Int) k2 => ((((decide (y1 < (p0.length:Int)))=true) →((zz0≤y1) ∧((y1 < (p0.length:Int)) ∧((((q3_Z2 p0 y1)=false) →((q3_Z2 p0 y1)=(q3_Z2 p0 y1))) ∧((((q3_Z2 p0 y1)=false) →((q3_Z2 p0 y1)=(q3_Z2 p0 y1))) ∧((((q3_Z2 p0 y1)=false) →((q3_Z2 p0 y1)=(q3_Z2 p0 y1))) ∧(((q3_Z2 p0 y1)=(q3_Z2 p0 y1)) ∧((((q1_Z2 p0 y1)=false) →((q1_Z2 p0 y1)=(q1_Z2 p0 y1))) ∧((((q1_Z2 p0 y1)=false) →((q1_Z2 p0 y1)=(q1_Z2 p0 y1))) ∧((((q1_Z2 p0 y1)=false) →((q1_Z2 p0 y1)=(q1_Z2 p0 y1))) ∧(((q1_Z2 p0 y1)=(q1_Z2 p0 y1)) ∧((((q0_Z2 p0 y1)=false) →((q0_Z2 p0 y1)=(q0_Z2 p0 y1))) ∧((((q0_Z2 p0 y1)=false) →((q0_Z2 p0 y1)=(q0_Z2 p0 y1))) ∧((((q0_Z2 p0 y1)=false) →((q0_Z2 p0 y1)=(q0_Z2 p0 y1))) ∧(((q0_Z2 p0 y1)=(q0_Z2 p0 y1)) ∧((((q2_Z2 p0 y1)=false) →((q2_Z2 p0 y1)=(q2_Z2 p0 y1))) ∧((((q2_Z2 p0 y1)=false) →((q2_Z2 p0 y1)=(q2_Z2 p0 y1))) ∧((((q2_Z2 p0 y1)=false) →((q2_Z2 p0 y1)=(q2_Z2 p0 y1))) ∧(((q2_Z2 p0 y1)=(q2_Z2 p0 y1)) ∧((((cond (q2_Z2 p0 y1) true (!(s_Z3 (p0.getD y1.toNat (zz0,(zz0,(zz0,(zz0,zz0))))).2.2.2.2 (-100000:Int) (100000:Int))))=true) →(K (y1,zz2))) ∧(((cond (q2_Z2 p0 y1) true (!(s_Z3 (p0.getD y1.toNat (zz0,(zz0,(zz0,(zz0,zz0))))).2.2.2.2 (-100000:Int) (100000:Int))))=false) →((((decide (y1 > zz0))=true) →((decide (y1 > zz0))=(decide (y1 > zz0)))) ∧((((decide (y1 > zz0))=true) →((decide (y1 > zz0))=(decide (y1 > zz0)))) ∧((((decide (y1 > zz0))=true) →((decide (y1 > zz0))=(decide (y1 > zz0)))) ∧((((decide (y1 > zz0))=true) →((decide (y1 > zz0))=(decide (y1 > zz0)))) ∧((((decide (y1 > zz0))=true) →(zz0≤(wi (y1 - zz1)))) ∧((((decide (y1 > zz0))=true) →((wi (y1 - zz1)) < (p0.length:Int))) ∧((((decide (y1 > zz0))=true) →((decide (y1 > zz0))=(decide (y1 > zz0)))) ∧((((decide (y1 > zz0))=true) →((decide (y1 > zz0))=(decide (y1 > zz0)))) ∧((((decide (y1 > zz0))=true) →((decide (y1 > zz0))=(decide (y1 > zz0)))) ∧((((decide (y1 > zz0))=true) →((decide (y1 > zz0))=(decide (y1 > zz0)))) ∧(((decide (y1 > zz0))=(decide (y1 > zz0))) ∧((((cond (decide (y1 > zz0)) (decide ((p0.getD y1.toNat (zz0,(zz0,(zz0,(zz0,zz0))))).1≤(p0.getD (Int.toNat (wi (y1 - zz1))) (zz0,(zz0,(zz0,(zz0,zz0))))).1)) false)=true) →(K (y1,(9:Int)))) ∧(((cond (decide (y1 > zz0)) (decide ((p0.getD y1.toNat (zz0,(zz0,(zz0,(zz0,zz0))))).1≤(p0.getD (Int.toNat (wi (y1 - zz1))) (zz0,(zz0,(zz0,(zz0,zz0))))).1)) false)=false) →(k2 (wi (y1 + zz1))))))))))))))))))))))))))))))))))))) ∧(((decide (y1 < (p0.length:Int)))=false) →(K (zz0,zz0))))) n0 zz0))))))
theorem w_Z2_eq (p0:(List (Int×(Int×(Int×(Int×Int)))))) (K:(Int×Int)→Prop):tfn F_Z2 A_Z2 C_Z2 P_Z2 R_Z2 p0 K = w_Z2 p0 K := by kernel_rfl
def st_Z2_0 (p0:(List (Int×(Int×(Int×(Int×Int)))))) (y2:Int):Int ⊕ (Int×Int) := (cond (decide (y2 < (p0.length:Int))) (cond (cond (cond (cond (cond (!(s_Z3 (p0.getD y2.toNat ((0:Int),((0:Int),((0:Int),(0,0))))).1 (0:Int) (1000000000000:Int))) true (!(s_Z3 (p0.getD y2.toNat ((0:Int),((0:Int),((0:Int),(0,0))))).2.1 (-10:Int) (10:Int)))) true (!(s_Z3 (p0.getD y2.toNat ((0:Int),((0:Int),((0:Int),(0,0))))).2.2.1 (-10:Int) (10:Int)))) true (!(s_Z3 (p0.getD y2.toNat ((0:Int),((0:Int),((0:Int),(0,0))))).2.2.2.1 (-10:Int) (10:Int)))) true (!(s_Z3 (p0.getD y2.toNat ((0:Int),((0:Int),((0:Int),(0,0))))).2.2.2.2 (-100000:Int) (100000:Int)))) (Sum.inr (y2,(2:Int))) (cond (cond (decide (y2 > 0)) (decide ((p0.getD y2.toNat ((0:Int),((0:Int),((0:Int),(0,0))))).1≤(p0.getD (Int.toNat (IntKind.i64.wrap (y2 - 1))) ((0:Int),((0:Int),((0:Int),(0,0))))).1)) false) (Sum.inr (y2,(9:Int))) (Sum.inl (IntKind.i64.wrap (y2 + 1))))) (Sum.inr (0,0)))
abbrev sp_Z2_0 (p0:(List (Int×(Int×(Int×(Int×Int)))))) (y2:Int):List Prop := [(((decide (y2 < (p0.length:Int)))=true)→((0:Int)≤y2)),(((decide (y2 < (p0.length:Int)))=true)→(y2 < (p0.length:Int))),(((decide (y2 < (p0.length:Int)))=true)→(((cond (cond (cond (cond (!(s_Z3 (p0.getD y2.toNat ((0:Int),((0:Int),((0:Int),(0,0))))).1 (0:Int) (1000000000000:Int))) true (!(s_Z3 (p0.getD y2.toNat ((0:Int),((0:Int),((0:Int),(0,0))))).2.1 (-10:Int) (10:Int)))) true (!(s_Z3 (p0.getD y2.toNat ((0:Int),((0:Int),((0:Int),(0,0))))).2.2.1 (-10:Int) (10:Int)))) true (!(s_Z3 (p0.getD y2.toNat ((0:Int),((0:Int),((0:Int),(0,0))))).2.2.2.1 (-10:Int) (10:Int)))) true (!(s_Z3 (p0.getD y2.toNat ((0:Int),((0:Int),((0:Int),(0,0))))).2.2.2.2 (-100000:Int) (100000:Int))))=false)→(((decide (y2 > 0))=true)→((0:Int)≤(IntKind.i64.wrap (y2 - 1)))))),(((decide (y2 < (p0.length:Int)))=true)→(((cond (cond (cond (cond (!(s_Z3 (p0.getD y2.toNat ((0:Int),((0:Int),((0:Int),(0,0))))).1 (0:Int) (1000000000000:Int))) true (!(s_Z3 (p0.getD y2.toNat ((0:Int),((0:Int),((0:Int),(0,0))))).2.1 (-10:Int) (10:Int)))) true (!(s_Z3 (p0.getD y2.toNat ((0:Int),((0:Int),((0:Int),(0,0))))).2.2.1 (-10:Int) (10:Int)))) true (!(s_Z3 (p0.getD y2.toNat ((0:Int),((0:Int),((0:Int),(0,0))))).2.2.2.1 (-10:Int) (10:Int)))) true (!(s_Z3 (p0.getD y2.toNat ((0:Int),((0:Int),((0:Int),(0,0))))).2.2.2.2 (-100000:Int) (100000:Int))))=false)→(((decide (y2 > 0))=true)→((IntKind.i64.wrap (y2 - 1)) < (p0.length:Int)))))]
def s_Z2 (p0:(List (Int×(Int×(Int×(Int×Int)))))):(Int×Int) := (cond ((p0.length:Int) == 0) ((0:Int),(10:Int)) (cond (decide ((p0.length:Int) > 20)) ((0:Int),(8:Int)) (lpv (0,0) (st_Z2_0 p0) (0:Int))))
abbrev pre_Z2 (p0:(List (Int×(Int×(Int×(Int×Int)))))):List Prop := [((((p0.length:Int) == 0)=false)→(((decide ((p0.length:Int) > 20))=false)→(OkL (st_Z2_0 p0) (sp_Z2_0 p0) (0:Int))))]
theorem d_Z2 (p0:(List (Int×(Int×(Int×(Int×Int)))))) (K:(Int×Int)→Prop) (hp:∀ p∈pre_Z2 p0,p) (h:K (s_Z2 p0)):w_Z2 p0 K := by
 unfold w_Z2
 unfold s_Z2 at h
 obtain ⟨hp0,_⟩ := conj_of hp
 exact (br' h (fun e0 h => h)
  (fun e0 h => (br' h (fun e1 h => h)
  (fun e1 h => (loop_gen (hp0 e0 e1) h (fun y2 k2 hp h => by
 unfold st_Z2_0 at h; obtain ⟨hp0,hp1,hp2,hp3,_⟩ := conj_of hp
 exact (br' h (fun e3 h => ⟨(hp0 e3),(hp1 e3),rf,rf,rf,rfl,rf,rf,rf,rfl,rf,rf,rf,rfl,rf,rf,rf,rfl,(br' h (fun e4 h => h)
  (fun e4 h => ⟨rf,rf,rf,rf,(hp2 e3 e4),(hp3 e3 e4),rf,rf,rf,rf,rfl,(br' h (fun e5 h => h)
  (fun e5 h => h))⟩))⟩)
  (fun e3 h => h))))))))
/-- Whether a sample is valid; what is wrong with one of samples; with samples. -/
def v_sval (x:Int×Int×Int×Int×Int):Bool := cond (s_Z3 x.1 0 1000000000000) (cond (s_Z3 x.2.1 (-10) 10) (cond (s_Z3 x.2.2.1 (-10) 10) (cond (s_Z3 x.2.2.2.1 (-10) 10) (s_Z3 x.2.2.2.2 (-100000) 100000) false) false) false) false
def v_cs1 (l:List (Int×Int×Int×Int×Int)) (i:Int) (x:Int×Int×Int×Int×Int):Option (Int×Int) := cond (v_sval x) (cond (cond (i == 0) true (decide (x.1 > (l.getD (i - 1).toNat (0,0,0,0,0)).1))) none (some (i,9))) (some (i,2))
def v_cs (l:List (Int×Int×Int×Int×Int)):Int×Int := cond ((l.length:Int) == 0) (0,10) (cond (decide ((l.length:Int) > 20)) (0,8) (v_scan (v_cs1 l) (0,0) 0 l))
theorem v_svalr {x:Int×Int×Int×Int×Int}:cond (cond (cond (cond (!(s_Z3 x.1 0 1000000000000)) true (!(s_Z3 x.2.1 (-10) 10))) true (!(s_Z3 x.2.2.1 (-10) 10))) true (!(s_Z3 x.2.2.2.1 (-10) 10))) true (!(s_Z3 x.2.2.2.2 (-100000) 100000)) = !(v_sval x) := by
 unfold v_sval
 cases s_Z3 x.1 0 1000000000000 <;> cases s_Z3 x.2.1 (-10) 10 <;> cases s_Z3 x.2.2.1 (-10) 10 <;> cases s_Z3 x.2.2.2.1 (-10) 10 <;> cases s_Z3 x.2.2.2.2 (-100000) 100000 <;> rfl
theorem l_Z2_0 (p0:List (Int×Int×Int×Int×Int)) (hl:p0.length≤20):OkL (st_Z2_0 p0) (sp_Z2_0 p0) 0∧lpv ((0,0):Int×Int) (st_Z2_0 p0) 0 = v_scan (v_cs1 p0) ((0,0):Int×Int) 0 p0 := by
 refine scan_is p0 (0,0,0,0,0) (v_cs1 p0) ((0,0):Int×Int) (lenOk_le hl (by decide)) ?_ ?_
 ·refine ⟨by simp only [sp_Z2_0,fM,decide_eq_true_eq]; simp,by simp [st_Z2_0]⟩
 ·intro j hj
  have hj' : (j:Int) < p0.length := by omega
  have hw := wrap_nat (show (j:Int)≤9223372036854775806 by omega)
  have hw2:IntKind.i64.wrap ((j:Int) - 1)=(j:Int) - 1 := wrap_id (by omega) (by omega)
  refine ⟨by simp only [sp_Z2_0,fM,decide_eq_true_eq,Int.toNat_natCast]; rw [hw2]; and_intros <;> first | (intro p hp; cases hp; done) | (intros; first | omega | (simp_all; done) | (simp_all; omega)),?_⟩
  simp only [st_Z2_0,hj',decide_true,Int.toNat_natCast,cond_true,hw,s_Zf,s_Zg,s_Zh,v_svalr,hw2]
  unfold v_cs1
  cases v_sval (p0.getD j (0,0,0,0,0))
  ·rfl
  ·rcases int0 (j:Int) with ⟨hj0,_,z⟩ | ⟨hj0,_,z⟩ <;> rw [z]
   ·rw [decide_eq_false (show ¬ (j:Int) > 0 by omega)]; rfl
   ·rw [decide_eq_true (show (j:Int) > 0 by omega)]
    rcases dec0 (a := (p0.getD ((j:Int) - 1).toNat (0,0,0,0,0)).1) (b := (p0.getD j (0,0,0,0,0)).1) with ⟨_,c1,c2,c3,c4⟩ | ⟨_,c1,c2,c3,c4⟩ <;> simp only [c3,c4] <;> rfl
abbrev t_Z2 (p0:List (Int×Int×Int×Int×Int)):Int×Int := v_cs p0
abbrev qre_Z2 (_p0:List (Int×Int×Int×Int×Int)):List Prop := []
theorem pp_Z2 (p0:List (Int×Int×Int×Int×Int)) (_hq:∀ p∈qre_Z2 p0,p):∀ p∈pre_Z2 p0,p := by
 simp only [pre_Z2,fM]
 exact ⟨fun _ h => (l_Z2_0 p0 (by have := of_decide_eq_false h; omega)).1,by simp⟩
theorem tt_Z2 (p0:List (Int×Int×Int×Int×Int)) (_hq:∀ p∈qre_Z2 p0,p):s_Z2 p0 = t_Z2 p0 := by
 unfold s_Z2 t_Z2 v_cs
 cases h:decide ((p0.length:Int) > 20)
 ·rw [(l_Z2_0 p0 (by have := of_decide_eq_false h; omega)).2]
 ·rfl

abbrev con_Z2:Con := ⟨P_Z2,R_Z2,fun x => qre_Z2 x,fun x => t_Z2 x⟩
theorem ok_Z2:ConOk Try.prog 34 con_Z2 := okG k_Z2 e_Z2 hC_Z2 fun x hx => tf_of (w_Z2_eq x _) (d_Z2 x _ (pp_Z2 x hx) (tt_Z2 x hx))
def C_Z6:Cons := []
theorem hC_Z6:ConsOk Try.prog C_Z6 := ConsOk.nil
def w_Z6 (p0:gF) (K:Int→Prop):Prop := (∃ n0,(loopP (fun (y1:Int) k2 => ((((decide (y1 < (p0.length:Int)))=true) →((zz0≤y1) ∧((y1 < (p0.length:Int)) ∧(((((p0.getD y1.toNat zz0) != 0)=true) →(K (p0.getD y1.toNat zz0))) ∧((((p0.getD y1.toNat zz0) != 0)=false) →(k2 (IntKind.i64.wrap (y1 + 1)))))))) ∧(((decide (y1 < (p0.length:Int)))=false) →(K zz0)))) n0 zz0))
theorem w_Z6_eq (p0:gF) (K:Int→Prop):tfn F_Z6 A_Z6 C_Z6 P_Z6 R_Z6 p0 K = w_Z6 p0 K := by kernel_rfl
def st_Z6_0 (p0:gF) (y0:Int):Int ⊕ Int := (cond (decide (y0 < (p0.length:Int))) (cond ((p0.getD y0.toNat (0:Int)) != 0) (Sum.inr (p0.getD y0.toNat (0:Int))) (Sum.inl (IntKind.i64.wrap (y0 + 1)))) (Sum.inr (0:Int)))
abbrev sp_Z6_0 (p0:gF) (y0:Int):List Prop := [(((decide (y0 < (p0.length:Int)))=true)→((0:Int)≤y0)),(((decide (y0 < (p0.length:Int)))=true)→(y0 < (p0.length:Int)))]
def s_Z6 (p0:gF):Int := (lpv (0:Int) (st_Z6_0 p0) (0:Int))
abbrev pre_Z6 (p0:gF):List Prop := [(OkL (st_Z6_0 p0) (sp_Z6_0 p0) (0:Int))]
theorem d_Z6 (p0:gF) (K:Int→Prop) (hp:∀ p∈pre_Z6 p0,p) (h:K (s_Z6 p0)):w_Z6 p0 K := by
 unfold w_Z6
 unfold s_Z6 at h
 obtain ⟨hp0,_⟩ := conj_of hp
 exact (loop_gen (hp0) h (fun y0 k0 hp h => by
 unfold st_Z6_0 at h; obtain ⟨hp0,hp1,_⟩ := conj_of hp
 exact (br' h (fun e1 h => ⟨(hp0 e1),(hp1 e1),(br' h (fun e2 h => h)
  (fun e2 h => h))⟩)
  (fun e1 h => h))))
theorem l_Z6_0 (p0:gF) (hl:lenOk p0):OkL (st_Z6_0 p0) (sp_Z6_0 p0) 0∧lpv (0:Int) (st_Z6_0 p0) 0 = v_scan (fun _ x => cond (x != 0) (some x) none) (0:Int) 0 p0 := by
 refine scan_is p0 0 (fun _ x => cond (x != 0) (some x) none) (0:Int) hl ?_ ?_
 ·refine ⟨by simp only [sp_Z6_0,fM,decide_eq_true_eq]; simp,by simp [st_Z6_0]⟩
 ·intro j hj
  have hj' : (j:Int) < p0.length := by omega
  refine ⟨by simp only [sp_Z6_0,fM,decide_eq_true_eq,Int.toNat_natCast]; simp <;> omega,?_⟩
  simp only [st_Z6_0,hj',decide_true,Int.toNat_natCast,cond_true,wrap_nat (show (j:Int)≤9223372036854775806 by unfold lenOk at hl; omega)]
  generalize p0.getD j 0 = x
  cases (x != 0) <;> rfl
abbrev t_Z6 (p0:gF):Int := v_first p0
abbrev qre_Z6 (p0:gF):List Prop := [lenOk p0]
theorem pp_Z6 (p0:gF) (hq:∀ p∈qre_Z6 p0,p):∀ p∈pre_Z6 p0,p := by
 simp only [pre_Z6,fM]
 exact ⟨(l_Z6_0 p0 (conj_of hq).1).1,by simp⟩
theorem tt_Z6 (p0:gF) (hq:∀ p∈qre_Z6 p0,p):s_Z6 p0 = t_Z6 p0 := by
 exact (l_Z6_0 p0 (conj_of hq).1).2.trans (v_first_scan p0 0)

abbrev con_Z6:Con := ⟨P_Z6,R_Z6,fun x => qre_Z6 x,fun x => t_Z6 x⟩
theorem ok_Z6:ConOk Try.prog 71 con_Z6 := okG k_Z6 e_Z6 hC_Z6 fun x hx => tf_of (w_Z6_eq x _) (d_Z6 x _ (pp_Z6 x hx) (tt_Z6 x hx))
def C_Z5:Cons := []
theorem hC_Z5:ConsOk Try.prog C_Z5 := ConsOk.nil
def w_Z5 (p0:Bool) (p1:Int) (K:Int→Prop):Prop := (((p0 = true) →(K zz0)) ∧((p0 = false) →(K p1)))
theorem w_Z5_eq (p0:Bool) (p1:Int) (K:Int→Prop):tfn F_Z5 A_Z5 C_Z5 P_Z5 R_Z5 (p0,p1) K = w_Z5 p0 p1 K := by kernel_rfl
def s_Z5 (p0:Bool) (p1:Int):Int := (cond p0 (0:Int) p1)
abbrev pre_Z5 (_p0:Bool) (_p1:Int):List Prop := []
theorem d_Z5 (p0:Bool) (p1:Int) (K:Int→Prop) (_hp:∀ p∈pre_Z5 p0 p1,p) (h:K (s_Z5 p0 p1)):w_Z5 p0 p1 K := by
 unfold w_Z5
 unfold s_Z5 at h
 exact (br' h (fun e0 h => h)
  (fun e0 h => h))
abbrev con_Z5:Con := ⟨P_Z5,R_Z5,fun x => pre_Z5 x.1 x.2,fun x => s_Z5 x.1 x.2⟩
theorem ok_Z5:ConOk Try.prog 66 con_Z5 := okG k_Z5 e_Z5 hC_Z5 fun x hx => tf_of (w_Z5_eq x.1 x.2 _) (d_Z5 x.1 x.2 _ hx rfl)
theorem tx_unless0 {a:Bool} {x:Int} (hx:x ≠ 0) (h:s_Z5 a x = 0):a = true := by
 cases a
 ·exact (hx h).elim
 ·rfl
theorem tx_unless {a:Bool} {x:Int}:s_Z5 a x = cond a 0 x := by cases a <;> rfl
def C_Z4:Cons := []
theorem hC_Z4:ConsOk Try.prog C_Z4 := ConsOk.nil
def w_Z4 (p0:Int) (p1:Int) (p2:Int) (K:Bool→Prop):Prop := ((((decide (p1≤p0))=true) →((decide (p1≤p0))=(decide (p1≤p0)))) ∧((((decide (p1≤p0))=true) →((decide (p1≤p0))=(decide (p1≤p0)))) ∧(((decide (p1≤p0))=(decide (p1≤p0))) ∧(K (cond (decide (p1≤p0)) (decide (p0≤p2)) false)))))
theorem w_Z4_eq (p0:Int) (p1:Int) (p2:Int) (K:Bool→Prop):tfn F_Z4 A_Z4 C_Z4 P_Z4 R_Z4 (p0,p1,p2) K = w_Z4 p0 p1 p2 K := by kernel_rfl
def s_Z4 (p0:Int) (p1:Int) (p2:Int):Bool := (cond (decide (p1≤p0)) (decide (p0≤p2)) false)
abbrev pre_Z4 (_p0:Int) (_p1:Int) (_p2:Int):List Prop := []
theorem d_Z4 (p0:Int) (p1:Int) (p2:Int) (K:Bool→Prop) (_hp:∀ p∈pre_Z4 p0 p1 p2,p) (h:K (s_Z4 p0 p1 p2)):w_Z4 p0 p1 p2 K := by
 unfold w_Z4
 unfold s_Z4 at h
 exact ⟨rf,rf,rfl,h⟩
abbrev con_Z4:Con := ⟨P_Z4,R_Z4,fun x => pre_Z4 x.1 x.2.1 x.2.2,fun x => s_Z4 x.1 x.2.1 x.2.2⟩
theorem ok_Z4:ConOk Try.prog 86 con_Z4 := okG k_Z4 e_Z4 hC_Z4 fun x hx => tf_of (w_Z4_eq x.1 x.2.1 x.2.2 _) (d_Z4 x.1 x.2.1 x.2.2 _ hx rfl)
theorem tx_withinG {n lo hi:Int}:s_Z4 n lo hi = s_Z3 n lo hi := rfl
def C_Zc:Cons := [(86,[],con_Z4)]
theorem hC_Zc:ConsOk Try.prog C_Zc := cC ok_Z4 <| ConsOk.nil
def w_Zc (p0:Int) (K:Bool→Prop):Prop := (K (s_Z4 p0 zz0 (1000000000000:Int)))
theorem w_Zc_eq (p0:Int) (K:Bool→Prop):tfn F_Zc A_Zc C_Zc P_Zc R_Zc p0 K = w_Zc p0 K := by kernel_rfl
def s_Zc (p0:Int):Bool := (s_Z4 p0 (0:Int) (1000000000000:Int))
abbrev pre_Zc (_p0:Int):List Prop := []
theorem d_Zc (p0:Int) (K:Bool→Prop) (_hp:∀ p∈pre_Zc p0,p) (h:K (s_Zc p0)):w_Zc p0 K := by
 unfold w_Zc
 unfold s_Zc at h
 exact h
abbrev con_Zc:Con := ⟨P_Zc,R_Zc,fun x => pre_Zc x,fun x => s_Zc x⟩
theorem ok_Zc:ConOk Try.prog 84 con_Zc := okG k_Zc e_Zc hC_Zc fun x hx => tf_of (w_Zc_eq x _) (d_Zc x _ hx rfl)
def C_Za:Cons := [(86,[],con_Z4)]
theorem hC_Za:ConsOk Try.prog C_Za := cC ok_Z4 <| ConsOk.nil
def w_Za (p0:Int) (p1:Int) (K:Bool→Prop):Prop := (K (s_Z4 p0 (IntKind.i64.wrap (zz0 - p1)) p1))
theorem w_Za_eq (p0:Int) (p1:Int) (K:Bool→Prop):tfn F_Za A_Za C_Za P_Za R_Za (p0,p1) K = w_Za p0 p1 K := by kernel_rfl
def s_Za (p0:Int) (p1:Int):Bool := (s_Z4 p0 (IntKind.i64.wrap ((0:Int) - p1)) p1)
abbrev pre_Za (_p0:Int) (_p1:Int):List Prop := []
theorem d_Za (p0:Int) (p1:Int) (K:Bool→Prop) (_hp:∀ p∈pre_Za p0 p1,p) (h:K (s_Za p0 p1)):w_Za p0 p1 K := by
 unfold w_Za
 unfold s_Za at h
 exact h
abbrev con_Za:Con := ⟨P_Za,R_Za,fun x => pre_Za x.1 x.2,fun x => s_Za x.1 x.2⟩
theorem ok_Za:ConOk Try.prog 83 con_Za := okG k_Za e_Za hC_Za fun x hx => tf_of (w_Za_eq x.1 x.2 _) (d_Za x.1 x.2 _ hx rfl)
def C_Zd:Cons := [(83,[],con_Za)]
theorem hC_Zd:ConsOk Try.prog C_Zd := cC ok_Za <| ConsOk.nil
def w_Zd (p0:Int) (K:Bool→Prop):Prop := (K (s_Z4 p0 (-10:Int) (10:Int)))
theorem w_Zd_eq (p0:Int) (K:Bool→Prop):tfn F_Zd A_Zd C_Zd P_Zd R_Zd p0 K = w_Zd p0 K := by kernel_rfl
def s_Zd (p0:Int):Bool := (s_Z4 p0 (-10:Int) (10:Int))
abbrev pre_Zd (_p0:Int):List Prop := []
theorem d_Zd (p0:Int) (K:Bool→Prop) (_hp:∀ p∈pre_Zd p0,p) (h:K (s_Zd p0)):w_Zd p0 K := by
 unfold w_Zd
 unfold s_Zd at h
 exact h
abbrev con_Zd:Con := ⟨P_Zd,R_Zd,fun x => pre_Zd x,fun x => s_Zd x⟩
theorem ok_Zd:ConOk Try.prog 82 con_Zd := okG k_Zd e_Zd hC_Zd fun x hx => tf_of (w_Zd_eq x _) (d_Zd x _ hx rfl)
def C_Ze:Cons := [(83,[],con_Za)]
theorem hC_Ze:ConsOk Try.prog C_Ze := cC ok_Za <| ConsOk.nil
def w_Ze (p0:Int) (K:Bool→Prop):Prop := (K (s_Z4 p0 (-100000:Int) (100000:Int)))
theorem w_Ze_eq (p0:Int) (K:Bool→Prop):tfn F_Ze A_Ze C_Ze P_Ze R_Ze p0 K = w_Ze p0 K := by kernel_rfl
def s_Ze (p0:Int):Bool := (s_Z4 p0 (-100000:Int) (100000:Int))
abbrev pre_Ze (_p0:Int):List Prop := []
theorem d_Ze (p0:Int) (K:Bool→Prop) (_hp:∀ p∈pre_Ze p0,p) (h:K (s_Ze p0)):w_Ze p0 K := by
 unfold w_Ze
 unfold s_Ze at h
 exact h
abbrev con_Ze:Con := ⟨P_Ze,R_Ze,fun x => pre_Ze x,fun x => s_Ze x⟩
theorem ok_Ze:ConOk Try.prog 85 con_Ze := okG k_Ze e_Ze hC_Ze fun x hx => tf_of (w_Ze_eq x _) (d_Ze x _ hx rfl)
def C_Z0:Cons := [(66,[],con_Z5),(71,[],con_Z6),(84,[],con_Zc),(82,[],con_Zd),(85,[],con_Ze)]
theorem hC_Z0:ConsOk Try.prog C_Z0 := cC ok_Z5 <| cC ok_Z6 <| cC ok_Zc <| cC ok_Zd <| cC ok_Ze <| ConsOk.nil
abbrev q1_Z0 (p0:(List (Int×(Int×(Int×(Int×Int)))))) (y1:gG) := (p0.getD y1.1.toNat (zz0,(zz0,(zz0,(zz0,zz0)))))
abbrev q6_Z0 (p0:(List (Int×(Int×(Int×(Int×Int)))))) (y1:gG) := (s_Z4 (q1_Z0 p0 y1).1 zz0 (1000000000000:Int))
abbrev q2_Z0 (p0:(List (Int×(Int×(Int×(Int×Int)))))) (y1:gG) := (cond (q6_Z0 p0 y1) (s_Z4 (q1_Z0 p0 y1).2.1 (-10:Int) (10:Int)) false)
abbrev q0_Z0 (p0:(List (Int×(Int×(Int×(Int×Int)))))) (y1:gG) := (cond (q2_Z0 p0 y1) (s_Z4 (q1_Z0 p0 y1).2.2.1 (-10:Int) (10:Int)) false)
abbrev q4_Z0 (p0:(List (Int×(Int×(Int×(Int×Int)))))) (y1:gG) := (cond (q0_Z0 p0 y1) (s_Z4 (q1_Z0 p0 y1).2.2.2.1 (-10:Int) (10:Int)) false)
abbrev q3_Z0 (p0:(List (Int×(Int×(Int×(Int×Int)))))) (y1:gG) := ((s_Z5 (cond (q4_Z0 p0 y1) (s_Z4 (q1_Z0 p0 y1).2.2.2.2 (-100000:Int) (100000:Int)) false) zz2) :: ((s_Z5 (decide ((q1_Z0 p0 y1).1 > y1.2)) (9:Int)) :: ([]:List Int)))
abbrev q5_Z0 (p0:(List (Int×(Int×(Int×(Int×Int)))))) := ((s_Z5 (decide ((p0.length:Int) > zz0)) (10:Int)) :: ((s_Z5 (decide ((p0.length:Int)≤20)) (8:Int)) :: ([]:List Int)))
def w_Z0 (p0:(List (Int×(Int×(Int×(Int×Int)))))) (K:(Int×Int)→Prop):Prop := ((lenOk (q5_Z0 p0)) ∧(((((v_first (q5_Z0 p0)) != zz0)=true) →(K (zz0,(v_first (q5_Z0 p0))))) ∧((((v_first (q5_Z0 p0)) != zz0)=false) →(∃ n0,(loopP (fun (y1:gG) k2 => ((((decide (y1.1 < (p0.length:Int)))=true) →((zz0≤y1.1) ∧((y1.1 < (p0.length:Int)) ∧((((q6_Z0 p0 y1)=true) →((q6_Z0 p0 y1)=(q6_Z0 p0 y1))) ∧((((q6_Z0 p0 y1)=true) →((q6_Z0 p0 y1)=(q6_Z0 p0 y1))) ∧((((q6_Z0 p0 y1)=true) →((q6_Z0 p0 y1)=(q6_Z0 p0 y1))) ∧(((q6_Z0 p0 y1)=(q6_Z0 p0 y1)) ∧((((q2_Z0 p0 y1)=true) →((q2_Z0 p0 y1)=(q2_Z0 p0 y1))) ∧((((q2_Z0 p0 y1)=true) →((q2_Z0 p0 y1)=(q2_Z0 p0 y1))) ∧((((q2_Z0 p0 y1)=true) →((q2_Z0 p0 y1)=(q2_Z0 p0 y1))) ∧(((q2_Z0 p0 y1)=(q2_Z0 p0 y1)) ∧((((q0_Z0 p0 y1)=true) →((q0_Z0 p0 y1)=(q0_Z0 p0 y1))) ∧((((q0_Z0 p0 y1)=true) →((q0_Z0 p0 y1)=(q0_Z0 p0 y1))) ∧((((q0_Z0 p0 y1)=true) →((q0_Z0 p0 y1)=(q0_Z0 p0 y1))) ∧(((q0_Z0 p0 y1)=(q0_Z0 p0 y1)) ∧((((q4_Z0 p0 y1)=true) →((q4_Z0 p0 y1)=(q4_Z0 p0 y1))) ∧((((q4_Z0 p0 y1)=true) →((q4_Z0 p0 y1)=(q4_Z0 p0 y1))) ∧(((q4_Z0 p0 y1)=(q4_Z0 p0 y1)) ∧((lenOk (q3_Z0 p0 y1)) ∧(((((v_first (q3_Z0 p0 y1)) != zz0)=true) →(K (y1.1,(v_first (q3_Z0 p0 y1))))) ∧((((v_first (q3_Z0 p0 y1)) != zz0)=false) →(k2 ((wi (y1.1 + zz1)),(q1_Z0 p0 y1).1))))))))))))))))))))))) ∧(((decide (y1.1 < (p0.length:Int)))=false) →(K (zz0,zz0))))) n0 (zz0,(-1:Int)))))))
theorem w_Z0_eq (p0:(List (Int×(Int×(Int×(Int×Int)))))) (K:(Int×Int)→Prop):tfn F_Z0 A_Z0 C_Z0 P_Z0 R_Z0 p0 K = w_Z0 p0 K := by kernel_rfl
def st_Z0_0 (p0:(List (Int×(Int×(Int×(Int×Int)))))) (y1:gG):(Int×Int) ⊕ (Int×Int) := (cond (decide (y1.1 < (p0.length:Int))) (cond ((v_first ((s_Z5 (cond (cond (cond (cond (s_Z4 (p0.getD y1.1.toNat ((0:Int),((0:Int),((0:Int),(0,0))))).1 (0:Int) (1000000000000:Int)) (s_Z4 (p0.getD y1.1.toNat ((0:Int),((0:Int),((0:Int),(0,0))))).2.1 (-10:Int) (10:Int)) false) (s_Z4 (p0.getD y1.1.toNat ((0:Int),((0:Int),((0:Int),(0,0))))).2.2.1 (-10:Int) (10:Int)) false) (s_Z4 (p0.getD y1.1.toNat ((0:Int),((0:Int),((0:Int),(0,0))))).2.2.2.1 (-10:Int) (10:Int)) false) (s_Z4 (p0.getD y1.1.toNat ((0:Int),((0:Int),((0:Int),(0,0))))).2.2.2.2 (-100000:Int) (100000:Int)) false) (2:Int)) :: ((s_Z5 (decide ((p0.getD y1.1.toNat ((0:Int),((0:Int),((0:Int),(0,0))))).1 > y1.2)) (9:Int)) :: ([]:List Int)))) != 0) (Sum.inr (y1.1,(v_first ((s_Z5 (cond (cond (cond (cond (s_Z4 (p0.getD y1.1.toNat ((0:Int),((0:Int),((0:Int),(0,0))))).1 (0:Int) (1000000000000:Int)) (s_Z4 (p0.getD y1.1.toNat ((0:Int),((0:Int),((0:Int),(0,0))))).2.1 (-10:Int) (10:Int)) false) (s_Z4 (p0.getD y1.1.toNat ((0:Int),((0:Int),((0:Int),(0,0))))).2.2.1 (-10:Int) (10:Int)) false) (s_Z4 (p0.getD y1.1.toNat ((0:Int),((0:Int),((0:Int),(0,0))))).2.2.2.1 (-10:Int) (10:Int)) false) (s_Z4 (p0.getD y1.1.toNat ((0:Int),((0:Int),((0:Int),(0,0))))).2.2.2.2 (-100000:Int) (100000:Int)) false) (2:Int)) :: ((s_Z5 (decide ((p0.getD y1.1.toNat ((0:Int),((0:Int),((0:Int),(0,0))))).1 > y1.2)) (9:Int)) :: ([]:List Int)))))) (Sum.inl ((IntKind.i64.wrap (y1.1 + 1)),(p0.getD y1.1.toNat ((0:Int),((0:Int),((0:Int),(0,0))))).1))) (Sum.inr (0,0)))
abbrev sp_Z0_0 (p0:(List (Int×(Int×(Int×(Int×Int)))))) (y1:gG):List Prop := [(((decide (y1.1 < (p0.length:Int)))=true)→((0:Int)≤y1.1)),(((decide (y1.1 < (p0.length:Int)))=true)→(y1.1 < (p0.length:Int)))]
def s_Z0 (p0:(List (Int×(Int×(Int×(Int×Int)))))):(Int×Int) := (cond ((v_first ((s_Z5 (decide ((p0.length:Int) > 0)) (10:Int)) :: ((s_Z5 (decide ((p0.length:Int)≤20)) (8:Int)) :: ([]:List Int)))) != 0) ((0:Int),(v_first ((s_Z5 (decide ((p0.length:Int) > 0)) (10:Int)) :: ((s_Z5 (decide ((p0.length:Int)≤20)) (8:Int)) :: ([]:List Int))))) (lpv (0,0) (st_Z0_0 p0) ((0:Int),(-1:Int))))
abbrev pre_Z0 (p0:(List (Int×(Int×(Int×(Int×Int)))))):List Prop := [((((v_first ((s_Z5 (decide ((p0.length:Int) > 0)) (10:Int)) :: ((s_Z5 (decide ((p0.length:Int)≤20)) (8:Int)) :: ([]:List Int)))) != 0)=false)→(OkL (st_Z0_0 p0) (sp_Z0_0 p0) ((0:Int),(-1:Int))))]
theorem d_Z0 (p0:(List (Int×(Int×(Int×(Int×Int)))))) (K:(Int×Int)→Prop) (hp:∀ p∈pre_Z0 p0,p) (h:K (s_Z0 p0)):w_Z0 p0 K := by
 unfold w_Z0
 unfold s_Z0 at h
 obtain ⟨hp0,_⟩ := conj_of hp
 exact ⟨(lenOk_of 2 rfl (by decide)),(br' h (fun e0 h => h)
  (fun e0 h => (loop_gen (hp0 e0) h (fun y1 k1 hp h => by
 unfold st_Z0_0 at h; obtain ⟨hp0,hp1,_⟩ := conj_of hp
 exact (br' h (fun e2 h => ⟨(hp0 e2),(hp1 e2),rf,rf,rf,rfl,rf,rf,rf,rfl,rf,rf,rf,rfl,rf,rf,rfl,(lenOk_of 2 rfl (by decide)),(br' h (fun e3 h => h)
  (fun e3 h => h))⟩)
  (fun e2 h => h))))))⟩
theorem tx_first2 {x y:Int}:v_first [x,y]=cond (x != 0) x y := by
 simp only [v_first]
 cases h:(x != 0)
 ·cases h2:(y != 0)
  ·simp at h2; subst h2; rfl
  ·rfl
 ·rfl
theorem tx_first1 {x y:Int} (h:(v_first [x,y] != 0)=false):x = 0∧y = 0 := by
 obtain ⟨h1,h2⟩ := v_first0 (bne0' h)
 exact ⟨h1,(v_first0 h2).1⟩
theorem tx_csh {n:Int} (h:0≤n):v_first [s_Z5 (decide (n > 0)) 10,s_Z5 (decide (n≤20)) 8]=cond (n == 0) 10 (cond (decide (n > 20)) 8 0) := by
 unfold s_Z5
 rcases int0 n with ⟨h0,_,e0⟩ | ⟨h0,_,e0⟩
 ·subst h0; rfl
 ·rw [e0,decide_eq_true (show n > 0 by omega)]
  rcases dec0 (a := 20) (b := n) with ⟨_,_,_,e1,e2⟩ | ⟨_,_,_,e1,e2⟩ <;> rw [e1,e2] <;> rfl
theorem tx_len {p0:List (Int×Int×Int×Int×Int)} (h:(v_first [s_Z5 (decide ((p0.length:Int) > 0)) 10,s_Z5 (decide ((p0.length:Int)≤20)) 8] != 0)=false):p0.length≤20 := by
 rw [tx_csh (by omega)] at h
 cases c:decide ((p0.length:Int) > 20)
 ·have := of_decide_eq_false c; omega
 ·rw [c] at h
  cases c2:((p0.length:Int) == 0) <;> rw [c2] at h <;> cases h
theorem v_svalm {x:Int×Int×Int×Int×Int}:cond (cond (cond (cond (s_Z4 x.1 0 1000000000000) (s_Z4 x.2.1 (-10) 10) false) (s_Z4 x.2.2.1 (-10) 10) false) (s_Z4 x.2.2.2.1 (-10) 10) false) (s_Z4 x.2.2.2.2 (-100000) 100000) false = v_sval x := by
 rw [tx_withinG,tx_withinG,tx_withinG,tx_withinG,tx_withinG]
 unfold v_sval
 cases s_Z3 x.1 0 1000000000000 <;> cases s_Z3 x.2.1 (-10) 10 <;> cases s_Z3 x.2.2.1 (-10) 10 <;> cases s_Z3 x.2.2.2.1 (-10) 10 <;> rfl
theorem v_sval_t {x:Int×Int×Int×Int×Int} (h:v_sval x = true):0≤x.1 := by
 unfold v_sval at h
 cases c:s_Z3 x.1 0 1000000000000
 ·rw [c] at h; cases h
 ·exact (tx_within.1 c).1
theorem l_Z0_0 (p0:List (Int×Int×Int×Int×Int)) (hl:p0.length≤20):OkL (st_Z0_0 p0) (sp_Z0_0 p0) (0,-1)∧lpv ((0,0):Int×Int) (st_Z0_0 p0) (0,-1)=v_scan (v_cs1 p0) ((0,0):Int×Int) 0 p0 := by
 refine @for_is Int (Int×Int) (Int×Int) (0,0) (st_Z0_0 p0) (sp_Z0_0 p0) (fun i t => (i,t)) 0 p0.length (fun j t => t = if j = 0 then -1 else (p0.getD (j - 1) (0,0,0,0,0)).1) (fun j _ => v_scan (v_cs1 p0) ((0,0):Int×Int) (j:Int) (p0.drop j)) (by omega) (by omega) ?_ ?_ (-1) rfl
 ·intro t _
  rw [List.drop_length]
  simp only [sp_Z0_0,st_Z0_0,fM,show decide ((p0.length:Int) < (p0.length:Int))=false from decide_eq_false (by omega),cond_false]
  refine ⟨?_,rfl⟩
  and_intros
  all_goals first
   | (intro h; cases h; done)
   | (intro p hp; cases hp)
 ·intro j t _ hj ht
  have hd1:decide ((j:Int) < (p0.length:Int))=true := decide_eq_true (by omega)
  have hw1:IntKind.i64.wrap ((j:Int) + 1)=((j + 1:Nat):Int) := wrap_id (by omega) (by omega)
  rw [drop_getD (0,0,0,0,0) hj]
  have e:v_scan (v_cs1 p0) ((0,0):Int×Int) (j:Int) (p0.getD j (0,0,0,0,0) :: p0.drop (j + 1))=match v_cs1 p0 (j:Int) (p0.getD j (0,0,0,0,0)) with | none => v_scan (v_cs1 p0) ((0,0):Int×Int) ((j:Int) + 1) (p0.drop (j + 1)) | some v => v := by simp only [v_scan]; cases v_cs1 p0 (j:Int) (p0.getD j (0,0,0,0,0)) <;> rfl
  rw [e,show (j:Int) + 1 = ((j + 1:Nat):Int) by omega]
  simp only [sp_Z0_0,st_Z0_0,fM,hd1,cond_true,hw1,Int.toNat_natCast,v_svalm]
  refine ⟨?_,?_⟩
  ·and_intros
   all_goals first
    | (intro p hp; cases hp; done)
    | (intros; omega)
  ·unfold v_cs1
   cases hv:v_sval (p0.getD j (0,0,0,0,0))
   ·exact .inr rfl
   ·have h0 := v_sval_t hv
    rcases Nat.eq_zero_or_pos j with rfl | hp
    ·rw [if_pos rfl] at ht
     rw [ht,decide_eq_true (show (p0.getD 0 (0,0,0,0,0)).1 > -1 by omega)]
     exact .inl ⟨_,rfl,by simp,rfl⟩
    ·rw [if_neg (by omega)] at ht
     rw [show ((j:Int) == 0)=false from beq_eq_false_iff_ne.2 (by omega),show ((j:Int) - 1).toNat = j - 1 by omega,ht]
     cases decide ((p0.getD j (0,0,0,0,0)).1 > (p0.getD (j - 1) (0,0,0,0,0)).1)
     ·exact .inr rfl
     ·exact .inl ⟨_,rfl,by simp,rfl⟩
abbrev t_Z0 (p0:List (Int×Int×Int×Int×Int)):Int×Int := v_cs p0
abbrev qre_Z0 (_p0:List (Int×Int×Int×Int×Int)):List Prop := []
theorem pp_Z0 (p0:List (Int×Int×Int×Int×Int)) (_hq:∀ p∈qre_Z0 p0,p):∀ p∈pre_Z0 p0,p := by
 simp only [pre_Z0,fM]
 refine ⟨fun h => ?_,by simp⟩
 exact (l_Z0_0 p0 (tx_len h)).1
theorem tt_Z0 (p0:List (Int×Int×Int×Int×Int)) (_hq:∀ p∈qre_Z0 p0,p):s_Z0 p0 = t_Z0 p0 := by
 unfold s_Z0 t_Z0 v_cs
 rw [tx_csh (by omega)]
 cases h:decide ((p0.length:Int) > 20)
 ·rw [(l_Z0_0 p0 (by have := of_decide_eq_false h; omega)).2]
  cases ((p0.length:Int) == 0) <;> rfl
 ·cases ((p0.length:Int) == 0) <;> rfl

abbrev con_Z0:Con := ⟨P_Z0,R_Z0,fun x => qre_Z0 x,fun x => t_Z0 x⟩
theorem ok_Z0:ConOk Try.prog 32 con_Z0 := okG k_Z0 e_Z0 hC_Z0 fun x hx => tf_of (w_Z0_eq x _) (d_Z0 x _ (pp_Z0 x hx) (tt_Z0 x hx))
def C_Z8:Cons := []
theorem hC_Z8:ConsOk Try.prog C_Z8 := ConsOk.nil
abbrev q0_Z8 (p0:(List (Int×(Int×(Int×(Int×Int)))))) (p1:Int) := (p0.getD p1.toNat (zz0,(zz0,(zz0,(zz0,zz0)))))
def w_Z8 (p0:(List (Int×(Int×(Int×(Int×Int)))))) (p1:Int) (K:(Int×(Int×(Int×(Int×(Int×(Int×(Int×Int)))))))→Prop):Prop := ((zz0≤p1) ∧((p1 < (p0.length:Int)) ∧((zz0≤(max zz0 (wi (p1 - zz1)))) ∧(((max zz0 (wi (p1 - zz1))) < (p0.length:Int)) ∧(K (zz1,((q0_Z8 p0 p1).2.1,((q0_Z8 p0 p1).2.2.1,((q0_Z8 p0 p1).2.2.2.1,((wi ((q0_Z8 p0 p1).2.1 * (q0_Z8 p0 p1).2.1)),((wi ((q0_Z8 p0 p1).2.1 * (q0_Z8 p0 p1).2.2.1)),((wi ((q0_Z8 p0 p1).2.1 - (p0.getD (Int.toNat (max zz0 (wi (p1 - zz1)))) (zz0,(zz0,(zz0,(zz0,zz0))))).2.1)),(wi ((q0_Z8 p0 p1).2.2.1 - (p0.getD (Int.toNat (max zz0 (wi (p1 - zz1)))) (zz0,(zz0,(zz0,(zz0,zz0))))).2.2.1))))))))))))))
theorem w_Z8_eq (p0:(List (Int×(Int×(Int×(Int×Int)))))) (p1:Int) (K:(Int×(Int×(Int×(Int×(Int×(Int×(Int×Int)))))))→Prop):tfn F_Z8 A_Z8 C_Z8 P_Z8 R_Z8 (p0,p1) K = w_Z8 p0 p1 K := by kernel_rfl
def s_Z8 (p0:(List (Int×(Int×(Int×(Int×Int)))))) (p1:Int):(Int×(Int×(Int×(Int×(Int×(Int×(Int×Int))))))) := ((1:Int),((p0.getD p1.toNat ((0:Int),((0:Int),((0:Int),(0,0))))).2.1,((p0.getD p1.toNat ((0:Int),((0:Int),((0:Int),(0,0))))).2.2.1,((p0.getD p1.toNat ((0:Int),((0:Int),((0:Int),(0,0))))).2.2.2.1,((IntKind.i64.wrap ((p0.getD p1.toNat ((0:Int),((0:Int),((0:Int),(0,0))))).2.1 * (p0.getD p1.toNat ((0:Int),((0:Int),((0:Int),(0,0))))).2.1)),((IntKind.i64.wrap ((p0.getD p1.toNat ((0:Int),((0:Int),((0:Int),(0,0))))).2.1 * (p0.getD p1.toNat ((0:Int),((0:Int),((0:Int),(0,0))))).2.2.1)),((IntKind.i64.wrap ((p0.getD p1.toNat ((0:Int),((0:Int),((0:Int),(0,0))))).2.1 - (p0.getD (Int.toNat (max (0:Int) (IntKind.i64.wrap (p1 - 1)))) ((0:Int),((0:Int),((0:Int),(0,0))))).2.1)),(IntKind.i64.wrap ((p0.getD p1.toNat ((0:Int),((0:Int),((0:Int),(0,0))))).2.2.1 - (p0.getD (Int.toNat (max (0:Int) (IntKind.i64.wrap (p1 - 1)))) ((0:Int),((0:Int),((0:Int),(0,0))))).2.2.1)))))))))
abbrev pre_Z8 (p0:(List (Int×(Int×(Int×(Int×Int)))))) (p1:Int):List Prop := [((0:Int)≤p1),(p1 < (p0.length:Int)),((0:Int)≤(max (0:Int) (IntKind.i64.wrap (p1 - 1)))),((max (0:Int) (IntKind.i64.wrap (p1 - 1))) < (p0.length:Int))]
theorem d_Z8 (p0:(List (Int×(Int×(Int×(Int×Int)))))) (p1:Int) (K:(Int×(Int×(Int×(Int×(Int×(Int×(Int×Int)))))))→Prop) (hp:∀ p∈pre_Z8 p0 p1,p) (h:K (s_Z8 p0 p1)):w_Z8 p0 p1 K := by
 unfold w_Z8
 unfold s_Z8 at h
 obtain ⟨hp0,hp1,hp2,hp3,_⟩ := conj_of hp
 exact ⟨(hp0),(hp1),(hp2),(hp3),h⟩
/-- Valid samples. -/
structure v_sok1 (q:Int×Int×Int×Int×Int):Prop where
 t:0≤q.1∧q.1≤1000000000000
 x : -10≤q.2.1∧q.2.1≤10
 y : -10≤q.2.2.1∧q.2.2.1≤10
 z : -10≤q.2.2.2.1∧q.2.2.2.1≤10
 v : -100000≤q.2.2.2.2∧q.2.2.2.2≤100000
structure v_smp (l:List (Int×Int×Int×Int×Int)):Prop where
 ne:l ≠ []
 len:l.length≤20
 ok:∀ x∈l,v_sok1 x
 asc:∀ k,0 < k→k < l.length→(l.getD (k - 1) (0,0,0,0,0)).1 < (l.getD k (0,0,0,0,0)).1
theorem v_sval_iff {x:Int×Int×Int×Int×Int}:v_sval x = true ↔ v_sok1 x := by
 unfold v_sval
 constructor
 ·intro h
  cases c1:s_Z3 x.1 0 1000000000000 <;> cases c2:s_Z3 x.2.1 (-10) 10 <;> cases c3:s_Z3 x.2.2.1 (-10) 10 <;> cases c4:s_Z3 x.2.2.2.1 (-10) 10 <;> cases c5:s_Z3 x.2.2.2.2 (-100000) 100000 <;> rw [c1,c2,c3,c4,c5] at h <;> try (cases h; done)
  exact ⟨tx_within.1 c1,tx_within.1 c2,tx_within.1 c3,tx_within.1 c4,tx_within.1 c5⟩
 ·rintro ⟨h1,h2,h3,h4,h5⟩
  rw [tx_within.2 h1,tx_within.2 h2,tx_within.2 h3,tx_within.2 h4,tx_within.2 h5]; rfl
theorem v_cs1_none {l:List (Int×Int×Int×Int×Int)} {k:Nat} {x:Int×Int×Int×Int×Int}:v_cs1 l (k:Int) x = none ↔ v_sok1 x∧(0 < k→(l.getD (k - 1) (0,0,0,0,0)).1 < x.1) := by
 unfold v_cs1
 have hk:((k:Int) - 1).toNat = k - 1 := by omega
 rw [hk]
 cases hv:v_sval x
 ·simp only [cond_false,reduceCtorEq,false_iff]
  rintro ⟨h,_⟩
  rw [v_sval_iff.2 h] at hv; cases hv
 ·have hs := v_sval_iff.1 hv
  rcases int0 (k:Int) with ⟨h0,_,e⟩ | ⟨h0,_,e⟩ <;> rw [e]
  ·simp only [cond_true,true_iff]
   exact ⟨hs,fun h => by omega⟩
  ·simp only [cond_true,cond_false]
   cases c:decide (x.1 > (l.getD (k - 1) (0,0,0,0,0)).1)
   ·have := of_decide_eq_false c
    simp only [cond_false,reduceCtorEq,false_iff]
    rintro ⟨_,h⟩
    have := h (by omega)
    omega
   ·have := of_decide_eq_true c
    simp only [cond_true,true_iff]
    exact ⟨hs,fun _ => this⟩
theorem v_cs_iff {l:List (Int×Int×Int×Int×Int)}:(v_cs l).2 = 0 ↔ v_smp l := by
 constructor
 ·intro h
  unfold v_cs at h
  rcases int0 (l.length:Int) with ⟨_,_,e0⟩ | ⟨h0,_,e0⟩
  ·rw [e0] at h; cases h
  rw [e0] at h
  rcases dec0 (a := 20) (b := (l.length:Int)) with ⟨_,_,_,_,e1⟩ | ⟨h1,_,_,_,e1⟩
  ·rw [e1] at h; cases h
  rw [e1] at h
  simp only [cond_false] at h
  have key := v_scan_end (f := v_cs1 l) (e := ((0,0):Int×Int)) (P := fun (r:gG) => r.2 = 0) l 0 h (fun j x v _ hv hv0 => by
   unfold v_cs1 at hv
   cases c1:v_sval x <;> rw [c1] at hv
   ·simp only [cond_false,sJ] at hv; subst hv; cases hv0
   ·cases c2:cond (j == 0) true (decide (x.1 > (l.getD (j - 1).toNat (0,0,0,0,0)).1)) <;> rw [c2] at hv
    ·simp only [cond_true,cond_false,sJ] at hv; subst hv; cases hv0
    ·cases hv)
  have key2:∀ k,(hk:k < l.length)→v_sok1 (l.getD k (0,0,0,0,0))∧(0 < k→(l.getD (k - 1) (0,0,0,0,0)).1 < (l.getD k (0,0,0,0,0)).1) := fun k hk => by
   have := key k hk
   rw [Int.zero_add] at this
   rw [gd_get (0,0,0,0,0) hk]
   exact v_cs1_none.1 this
  refine ⟨by rintro rfl; exact h0 rfl,by omega,fun x hx => ?_,fun k h0 hk => (key2 k hk).2 h0⟩
  obtain ⟨k,hk,rfl⟩ := List.getElem_of_mem hx
  rw [← gd_get (0,0,0,0,0) hk]
  exact (key2 k hk).1
 ·intro h
  have h0:0 < l.length := List.length_pos_iff.2 h.ne
  have hl := h.len
  unfold v_cs
  rw [show ((l.length:Int) == 0)=false from beq_eq_false_iff_ne.2 (by omega),decide_eq_false (show ¬ (l.length:Int) > 20 by omega)]
  simp only [cond_false]
  have key:∀ (r:List (Int×Int×Int×Int×Int)) (k:Nat),l.drop k = r→v_scan (v_cs1 l) ((0,0):Int×Int) (k:Int) r = (0,0) := by
   intro r
   induction r with
   | nil => intro k _; rfl
   | cons x r ih =>
    intro k e
    have hk:k < l.length := by
     rcases Nat.lt_or_ge k l.length with g | g
     ·exact g
     ·rw [List.drop_eq_nil_of_le g] at e; cases e
    rw [drop_getD (0,0,0,0,0) hk] at e
    simp only [List.cons.injEq] at e
    obtain ⟨e1,e2⟩ := e
    unfold v_scan
    rw [v_cs1_none.2 ⟨e1 ▸ h.ok _ (getD_mem' _ hk),fun h0 => e1 ▸ h.asc k h0 hk⟩]
    have := ih (k + 1) e2
    rw [Int.natCast_add] at this
    exact this
  rw [show v_scan (v_cs1 l) ((0,0):Int×Int) 0 l = (0,0) from key l 0 rfl]
/-- The terms of a sample. -/
def v_tms (l:List (Int×Int×Int×Int×Int)) (i:Nat):Int×Int×Int×Int×Int×Int×Int×Int := (1,(l.getD i (0,0,0,0,0)).2.1,(l.getD i (0,0,0,0,0)).2.2.1,(l.getD i (0,0,0,0,0)).2.2.2.1,(l.getD i (0,0,0,0,0)).2.1 * (l.getD i (0,0,0,0,0)).2.1,(l.getD i (0,0,0,0,0)).2.1 * (l.getD i (0,0,0,0,0)).2.2.1,
 (l.getD i (0,0,0,0,0)).2.1 - (l.getD (i - 1) (0,0,0,0,0)).2.1,(l.getD i (0,0,0,0,0)).2.2.1 - (l.getD (i - 1) (0,0,0,0,0)).2.2.1)
theorem v_m10 {x y:Int} (hx : -10≤x∧x≤10) (hy : -10≤y∧y≤10) : -100≤x * y∧x * y≤100 := by
 have h1 := mul_abs (x := x) (y := y) (a := 10) (b := 10) hx.1 hx.2 hy.1 hy.2
 omega
theorem v_tms_w {l:List (Int×Int×Int×Int×Int)} (h:v_smp l) {i:Nat} (hi:i < l.length):IntKind.i64.wrap ((l.getD i (0,0,0,0,0)).2.1 * (l.getD i (0,0,0,0,0)).2.1)=(l.getD i (0,0,0,0,0)).2.1 * (l.getD i (0,0,0,0,0)).2.1∧IntKind.i64.wrap ((l.getD i (0,0,0,0,0)).2.1 * (l.getD i (0,0,0,0,0)).2.2.1)=(l.getD i (0,0,0,0,0)).2.1 * (l.getD i (0,0,0,0,0)).2.2.1 ∧
  IntKind.i64.wrap ((l.getD i (0,0,0,0,0)).2.1 - (l.getD (i - 1) (0,0,0,0,0)).2.1)=(l.getD i (0,0,0,0,0)).2.1 - (l.getD (i - 1) (0,0,0,0,0)).2.1∧IntKind.i64.wrap ((l.getD i (0,0,0,0,0)).2.2.1 - (l.getD (i - 1) (0,0,0,0,0)).2.2.1)=(l.getD i (0,0,0,0,0)).2.2.1 - (l.getD (i - 1) (0,0,0,0,0)).2.2.1 := by
 have a := h.ok _ (getD_mem' (0,0,0,0,0) hi)
 have b := h.ok _ (getD_mem' (0,0,0,0,0) (show i - 1 < l.length by omega))
 have ax := a.x
 have ay := a.y
 have bx := b.x
 have bY := b.y
 have m1 := v_m10 ax ax
 have m2 := v_m10 ax ay
 exact ⟨wrap_id (by omega) (by omega),wrap_id (by omega) (by omega),wrap_id (by omega) (by omega),wrap_id (by omega) (by omega)⟩
abbrev t_Z8 (p0:List (Int×Int×Int×Int×Int)) (p1:Int):Int×Int×Int×Int×Int×Int×Int×Int := v_tms p0 p1.toNat
abbrev qre_Z8 (p0:List (Int×Int×Int×Int×Int)) (p1:Int):List Prop := [v_smp p0,0≤p1,p1 < p0.length]
theorem pp_Z8 (p0:List (Int×Int×Int×Int×Int)) (p1:Int) (hq:∀ p∈qre_Z8 p0 p1,p):∀ p∈pre_Z8 p0 p1,p := by
 obtain ⟨h1,h2,h3,_⟩ := conj_of hq
 have hl := h1.len
 have hw:IntKind.i64.wrap (p1 - 1)=p1 - 1 := wrap_id (by omega) (by omega)
 simp only [pre_Z8,fM,hw]
 and_intros
 all_goals first | omega | (intro p hp; cases hp)
theorem tt_Z8 (p0:List (Int×Int×Int×Int×Int)) (p1:Int) (hq:∀ p∈qre_Z8 p0 p1,p):s_Z8 p0 p1 = t_Z8 p0 p1 := by
 obtain ⟨h1,h2,h3,_⟩ := conj_of hq
 have hl := h1.len
 have hw:IntKind.i64.wrap (p1 - 1)=p1 - 1 := wrap_id (by omega) (by omega)
 obtain ⟨w1,w2,w3,w4⟩ := v_tms_w h1 (show p1.toNat < p0.length by omega)
 unfold s_Z8 t_Z8 v_tms
 rw [hw,show (max 0 (p1 - 1)).toNat = p1.toNat - 1 by omega,w1,w2,w3,w4]

abbrev con_Z8:Con := ⟨P_Z8,R_Z8,fun x => qre_Z8 x.1 x.2,fun x => t_Z8 x.1 x.2⟩
theorem ok_Z8:ConOk Try.prog 87 con_Z8 := okG k_Z8 e_Z8 hC_Z8 fun x hx => tf_of (w_Z8_eq x.1 x.2 _) (d_Z8 x.1 x.2 _ (pp_Z8 x.1 x.2 hx) (tt_Z8 x.1 x.2 hx))
def C_Zb:Cons := [(32,[],con_Z0)]
theorem hC_Zb:ConsOk Try.prog C_Zb := cC ok_Z0 <| ConsOk.nil
def w_Zb (p0:(List (Int×(Int×(Int×(Int×Int)))))) (K:Int→Prop):Prop := (K (v_cs p0).2)
theorem w_Zb_eq (p0:(List (Int×(Int×(Int×(Int×Int)))))) (K:Int→Prop):tfn F_Zb A_Zb C_Zb P_Zb R_Zb p0 K = w_Zb p0 K := by kernel_rfl
def s_Zb (p0:(List (Int×(Int×(Int×(Int×Int)))))):Int := (v_cs p0).2
abbrev pre_Zb (_p0:(List (Int×(Int×(Int×(Int×Int)))))):List Prop := []
theorem d_Zb (p0:(List (Int×(Int×(Int×(Int×Int)))))) (K:Int→Prop) (_hp:∀ p∈pre_Zb p0,p) (h:K (s_Zb p0)):w_Zb p0 K := by
 unfold w_Zb
 unfold s_Zb at h
 exact h
abbrev con_Zb:Con := ⟨P_Zb,R_Zb,fun x => pre_Zb x,fun x => s_Zb x⟩
theorem ok_Zb:ConOk Try.prog 72 con_Zb := okG k_Zb e_Zb hC_Zb fun x hx => tf_of (w_Zb_eq x _) (d_Zb x _ hx rfl)
def C_Z9:Cons := [(72,[],con_Zb),(86,[],con_Z4),(66,[],con_Z5),(71,[],con_Z6),(87,[],con_Z8)]
theorem hC_Z9:ConsOk Try.prog C_Z9 := cC ok_Zb <| cC ok_Z4 <| cC ok_Z5 <| cC ok_Z6 <| cC ok_Z8 <| ConsOk.nil
def w_Z9 (p0:(List (Int×(Int×(Int×(Int×Int)))))) (p1:Int) (K:((Int×(Int×(Int×(Int×(Int×(Int×(Int×Int)))))))×Int)→Prop):Prop := ((lenOk ((v_cs p0).2 :: ((s_Z5 (s_Z4 p1 zz0 (IntKind.i64.wrap ((p0.length:Int) - 1))) (6:Int)) :: ([]:List Int)))) ∧(((((v_first ((v_cs p0).2 :: ((s_Z5 (s_Z4 p1 zz0 (IntKind.i64.wrap ((p0.length:Int) - 1))) (6:Int)) :: ([]:List Int)))) != 0)=true) →(K ((zz0,(zz0,(zz0,(zz0,(zz0,(zz0,(zz0,zz0))))))),(v_first ((v_cs p0).2 :: ((s_Z5 (s_Z4 p1 zz0 (IntKind.i64.wrap ((p0.length:Int) - 1))) (6:Int)) :: ([]:List Int))))))) ∧((((v_first ((v_cs p0).2 :: ((s_Z5 (s_Z4 p1 zz0 (IntKind.i64.wrap ((p0.length:Int) - 1))) (6:Int)) :: ([]:List Int)))) != 0)=false) →((v_smp p0) ∧((zz0≤p1) ∧((p1 < (p0.length:Int)) ∧(K ((v_tms p0 p1.toNat),zz0))))))))
theorem w_Z9_eq (p0:(List (Int×(Int×(Int×(Int×Int)))))) (p1:Int) (K:((Int×(Int×(Int×(Int×(Int×(Int×(Int×Int)))))))×Int)→Prop):tfn F_Z9 A_Z9 C_Z9 P_Z9 R_Z9 (p0,p1) K = w_Z9 p0 p1 K := by kernel_rfl
def s_Z9 (p0:(List (Int×(Int×(Int×(Int×Int)))))) (p1:Int):((Int×(Int×(Int×(Int×(Int×(Int×(Int×Int)))))))×Int) := (cond ((v_first ((v_cs p0).2 :: ((s_Z5 (s_Z4 p1 (0:Int) (IntKind.i64.wrap ((p0.length:Int) - 1))) (6:Int)) :: ([]:List Int)))) != 0) (((0:Int),((0:Int),((0:Int),((0:Int),((0:Int),((0:Int),(0,0))))))),(v_first ((v_cs p0).2 :: ((s_Z5 (s_Z4 p1 (0:Int) (IntKind.i64.wrap ((p0.length:Int) - 1))) (6:Int)) :: ([]:List Int))))) ((v_tms p0 p1.toNat),(0:Int)))
abbrev pre_Z9 (p0:(List (Int×(Int×(Int×(Int×Int)))))) (p1:Int):List Prop := [((((v_first ((v_cs p0).2 :: ((s_Z5 (s_Z4 p1 (0:Int) (IntKind.i64.wrap ((p0.length:Int) - 1))) (6:Int)) :: ([]:List Int)))) != 0)=false)→(v_smp p0)),((((v_first ((v_cs p0).2 :: ((s_Z5 (s_Z4 p1 (0:Int) (IntKind.i64.wrap ((p0.length:Int) - 1))) (6:Int)) :: ([]:List Int)))) != 0)=false)→((0:Int)≤p1)),((((v_first ((v_cs p0).2 :: ((s_Z5 (s_Z4 p1 (0:Int) (IntKind.i64.wrap ((p0.length:Int) - 1))) (6:Int)) :: ([]:List Int)))) != 0)=false)→(p1 < (p0.length:Int)))]
theorem d_Z9 (p0:(List (Int×(Int×(Int×(Int×Int)))))) (p1:Int) (K:((Int×(Int×(Int×(Int×(Int×(Int×(Int×Int)))))))×Int)→Prop) (hp:∀ p∈pre_Z9 p0 p1,p) (h:K (s_Z9 p0 p1)):w_Z9 p0 p1 K := by
 unfold w_Z9
 unfold s_Z9 at h
 obtain ⟨hp0,hp1,hp2,_⟩ := conj_of hp
 exact ⟨(lenOk_of 2 rfl (by decide)),(br' h (fun e0 h => h)
  (fun e0 h => ⟨(hp0 e0),(hp1 e0),(hp2 e0),h⟩))⟩
def v_tof (l:List (Int×Int×Int×Int×Int)) (i:Int):(Int×Int×Int×Int×Int×Int×Int×Int)×Int := cond ((v_cs l).2 != 0) ((0,0,0,0,0,0,0,0),(v_cs l).2) (cond (s_Z3 i 0 ((l.length:Int) - 1)) (v_tms l i.toNat,0) ((0,0,0,0,0,0,0,0),6))
abbrev t_Z9 (p0:List (Int×Int×Int×Int×Int)) (p1:Int):(Int×Int×Int×Int×Int×Int×Int×Int)×Int := v_tof p0 p1
abbrev qre_Z9 (_p0:List (Int×Int×Int×Int×Int)) (_p1:Int):List Prop := []
theorem pp_Z9 (p0:List (Int×Int×Int×Int×Int)) (p1:Int) (_hq:∀ p∈qre_Z9 p0 p1,p):∀ p∈pre_Z9 p0 p1,p := by
 simp only [pre_Z9,fM]
 have key:(v_first [(v_cs p0).2,s_Z5 (s_Z4 p1 0 (IntKind.i64.wrap ((p0.length:Int) - 1))) 6] != 0)=false→v_smp p0∧0≤p1∧p1 < p0.length := fun h => by
  obtain ⟨h1,h2⟩ := tx_first1 h
  have hs := v_cs_iff.1 h1
  have hl := hs.len
  have hb := tx_within.1 (tx_withinG ▸ tx_unless0 (by decide) h2)
  rw [wrap_id (by omega) (by omega)] at hb
  exact ⟨hs,by omega,by omega⟩
 and_intros
 all_goals first | exact fun h => (key h).1 | exact fun h => (key h).2.1 | exact fun h => (key h).2.2 | (intro p hp; cases hp)
theorem tt_Z9 (p0:List (Int×Int×Int×Int×Int)) (p1:Int) (_hq:∀ p∈qre_Z9 p0 p1,p):s_Z9 p0 p1 = t_Z9 p0 p1 := by
 unfold s_Z9 t_Z9 v_tof
 rw [tx_first2]
 rcases int0 (v_cs p0).2 with ⟨z,e,_⟩ | ⟨z,e,_⟩ <;> rw [e]
 ·have hs := v_cs_iff.1 z
  have hl := hs.len
  rw [wrap_id (by omega) (by omega),tx_withinG,tx_unless]
  cases s_Z3 p1 0 ((p0.length:Int) - 1) <;> rfl
 ·rw [cond_true,e]; rfl

abbrev con_Z9:Con := ⟨P_Z9,R_Z9,fun x => qre_Z9 x.1 x.2,fun x => t_Z9 x.1 x.2⟩
theorem ok_Z9:ConOk Try.prog 33 con_Z9 := okG k_Z9 e_Z9 hC_Z9 fun x hx => tf_of (w_Z9_eq x.1 x.2 _) (d_Z9 x.1 x.2 _ (pp_Z9 x.1 x.2 hx) (tt_Z9 x.1 x.2 hx))
def C_Z7:Cons := []
theorem hC_Z7:ConsOk Try.prog C_Z7 := ConsOk.nil
abbrev q0_Z7 (p0:(List (Int×(Int×(Int×(Int×Int)))))) (p1:Int) := (p0.getD p1.toNat (zz0,(zz0,(zz0,(zz0,zz0)))))
def w_Z7 (p0:(List (Int×(Int×(Int×(Int×Int)))))) (p1:Int) (K:(Int×(Int×(Int×(Int×(Int×(Int×(Int×Int)))))))→Prop):Prop := ((zz0≤p1) ∧((p1 < (p0.length:Int)) ∧((((decide (p1 > zz0))=true) →((zz0≤(wi (p1 - zz1))) ∧(((wi (p1 - zz1)) < (p0.length:Int)) ∧((zz0≤(wi (p1 - zz1))) ∧(((wi (p1 - zz1)) < (p0.length:Int)) ∧(K (zz1,((q0_Z7 p0 p1).2.1,((q0_Z7 p0 p1).2.2.1,((q0_Z7 p0 p1).2.2.2.1,((wi ((q0_Z7 p0 p1).2.1 * (q0_Z7 p0 p1).2.1)),((wi ((q0_Z7 p0 p1).2.1 * (q0_Z7 p0 p1).2.2.1)),((wi ((q0_Z7 p0 p1).2.1 - (p0.getD (Int.toNat (wi (p1 - zz1))) (zz0,(zz0,(zz0,(zz0,zz0))))).2.1)),(wi ((q0_Z7 p0 p1).2.2.1 - (p0.getD (Int.toNat (wi (p1 - zz1))) (zz0,(zz0,(zz0,(zz0,zz0))))).2.2.1))))))))))))))) ∧(((decide (p1 > zz0))=false) →(K (zz1,((q0_Z7 p0 p1).2.1,((q0_Z7 p0 p1).2.2.1,((q0_Z7 p0 p1).2.2.2.1,((wi ((q0_Z7 p0 p1).2.1 * (q0_Z7 p0 p1).2.1)),((wi ((q0_Z7 p0 p1).2.1 * (q0_Z7 p0 p1).2.2.1)),(zz0,zz0))))))))))))
theorem w_Z7_eq (p0:(List (Int×(Int×(Int×(Int×Int)))))) (p1:Int) (K:(Int×(Int×(Int×(Int×(Int×(Int×(Int×Int)))))))→Prop):tfn F_Z7 A_Z7 C_Z7 P_Z7 R_Z7 (p0,p1) K = w_Z7 p0 p1 K := by kernel_rfl
def s_Z7 (p0:(List (Int×(Int×(Int×(Int×Int)))))) (p1:Int):(Int×(Int×(Int×(Int×(Int×(Int×(Int×Int))))))) := (cond (decide (p1 > 0)) ((1:Int),((p0.getD p1.toNat ((0:Int),((0:Int),((0:Int),(0,0))))).2.1,((p0.getD p1.toNat ((0:Int),((0:Int),((0:Int),(0,0))))).2.2.1,((p0.getD p1.toNat ((0:Int),((0:Int),((0:Int),(0,0))))).2.2.2.1,((IntKind.i64.wrap ((p0.getD p1.toNat ((0:Int),((0:Int),((0:Int),(0,0))))).2.1 * (p0.getD p1.toNat ((0:Int),((0:Int),((0:Int),(0,0))))).2.1)),((IntKind.i64.wrap ((p0.getD p1.toNat ((0:Int),((0:Int),((0:Int),(0,0))))).2.1 * (p0.getD p1.toNat ((0:Int),((0:Int),((0:Int),(0,0))))).2.2.1)),((IntKind.i64.wrap ((p0.getD p1.toNat ((0:Int),((0:Int),((0:Int),(0,0))))).2.1 - (p0.getD (Int.toNat (IntKind.i64.wrap (p1 - 1))) ((0:Int),((0:Int),((0:Int),(0,0))))).2.1)),(IntKind.i64.wrap ((p0.getD p1.toNat ((0:Int),((0:Int),((0:Int),(0,0))))).2.2.1 - (p0.getD (Int.toNat (IntKind.i64.wrap (p1 - 1))) ((0:Int),((0:Int),((0:Int),(0,0))))).2.2.1))))))))) ((1:Int),((p0.getD p1.toNat ((0:Int),((0:Int),((0:Int),(0,0))))).2.1,((p0.getD p1.toNat ((0:Int),((0:Int),((0:Int),(0,0))))).2.2.1,((p0.getD p1.toNat ((0:Int),((0:Int),((0:Int),(0,0))))).2.2.2.1,((IntKind.i64.wrap ((p0.getD p1.toNat ((0:Int),((0:Int),((0:Int),(0,0))))).2.1 * (p0.getD p1.toNat ((0:Int),((0:Int),((0:Int),(0,0))))).2.1)),((IntKind.i64.wrap ((p0.getD p1.toNat ((0:Int),((0:Int),((0:Int),(0,0))))).2.1 * (p0.getD p1.toNat ((0:Int),((0:Int),((0:Int),(0,0))))).2.2.1)),(0,0))))))))
abbrev pre_Z7 (p0:(List (Int×(Int×(Int×(Int×Int)))))) (p1:Int):List Prop := [((0:Int)≤p1),(p1 < (p0.length:Int)),(((decide (p1 > 0))=true)→((0:Int)≤(IntKind.i64.wrap (p1 - 1)))),(((decide (p1 > 0))=true)→((IntKind.i64.wrap (p1 - 1)) < (p0.length:Int)))]
theorem d_Z7 (p0:(List (Int×(Int×(Int×(Int×Int)))))) (p1:Int) (K:(Int×(Int×(Int×(Int×(Int×(Int×(Int×Int)))))))→Prop) (hp:∀ p∈pre_Z7 p0 p1,p) (h:K (s_Z7 p0 p1)):w_Z7 p0 p1 K := by
 unfold w_Z7
 unfold s_Z7 at h
 obtain ⟨hp0,hp1,hp2,hp3,_⟩ := conj_of hp
 exact ⟨(hp0),(hp1),(br' h (fun e0 h => ⟨(hp2 e0),(hp3 e0),(hp2 e0),(hp3 e0),h⟩)
  (fun e0 h => h))⟩
abbrev t_Z7 (p0:List (Int×Int×Int×Int×Int)) (p1:Int):Int×Int×Int×Int×Int×Int×Int×Int := v_tms p0 p1.toNat
abbrev qre_Z7 (p0:List (Int×Int×Int×Int×Int)) (p1:Int):List Prop := [v_smp p0,0≤p1,p1 < p0.length]
theorem pp_Z7 (p0:List (Int×Int×Int×Int×Int)) (p1:Int) (hq:∀ p∈qre_Z7 p0 p1,p):∀ p∈pre_Z7 p0 p1,p := by
 obtain ⟨h1,h2,h3,_⟩ := conj_of hq
 have hl := h1.len
 have hw:IntKind.i64.wrap (p1 - 1)=p1 - 1 := wrap_id (by omega) (by omega)
 simp only [pre_Z7,fM,hw,decide_eq_true_eq]
 and_intros
 all_goals first | (intros; omega) | (intro p hp; cases hp)
theorem tt_Z7 (p0:List (Int×Int×Int×Int×Int)) (p1:Int) (hq:∀ p∈qre_Z7 p0 p1,p):s_Z7 p0 p1 = t_Z7 p0 p1 := by
 obtain ⟨h1,h2,h3,_⟩ := conj_of hq
 have hl := h1.len
 have hw:IntKind.i64.wrap (p1 - 1)=p1 - 1 := wrap_id (by omega) (by omega)
 obtain ⟨w1,w2,w3,w4⟩ := v_tms_w h1 (show p1.toNat < p0.length by omega)
 unfold s_Z7 t_Z7 v_tms
 rw [hw,w1,w2]
 by_cases h0:p1 > 0
 ·rw [decide_eq_true h0,cond_true,show (p1 - 1).toNat = p1.toNat - 1 by omega,w3,w4]
 ·rw [decide_eq_false h0,cond_false,show p1.toNat - 1 = p1.toNat by omega,Int.sub_self,Int.sub_self]

abbrev con_Z7:Con := ⟨P_Z7,R_Z7,fun x => qre_Z7 x.1 x.2,fun x => t_Z7 x.1 x.2⟩
theorem ok_Z7:ConOk Try.prog 23 con_Z7 := okG k_Z7 e_Z7 hC_Z7 fun x hx => tf_of (w_Z7_eq x.1 x.2 _) (d_Z7 x.1 x.2 _ (pp_Z7 x.1 x.2 hx) (tt_Z7 x.1 x.2 hx))
def C_Z1:Cons := [(13,[],con_Zk),(20,[],con_Zi),(22,[],con_Zj),(32,[],con_Z0),(33,[],con_Z9),(34,[],con_Z2),(17,[],con_Z3),(23,[],con_Z7)]
theorem hC_Z1:ConsOk Try.prog C_Z1 := cC ok_Zk <| cC ok_Zi <| cC ok_Zj <| cC ok_Z0 <| cC ok_Z9 <| cC ok_Z2 <| cC ok_Z3 <| cC ok_Z7 <| ConsOk.nil
abbrev q0_Z1 (p0:(List (Int×(Int×(Int×(Int×Int)))))) (p1:Int) := (v_tof (([]:List (Int×(Int×(Int×(Int×Int))))) ++ p0) p1)
abbrev q1_Z1 (p0:(List (Int×(Int×(Int×(Int×Int)))))) (p1:Int) := (cond ((q0_Z1 p0 p1).2 == zz0) (((q0_Z1 p0 p1).1.1 == (v_tms p0 p1.toNat).1) && (((q0_Z1 p0 p1).1.2.1 == (v_tms p0 p1.toNat).2.1) && (((q0_Z1 p0 p1).1.2.2.1 == (v_tms p0 p1.toNat).2.2.1) && (((q0_Z1 p0 p1).1.2.2.2.1 == (v_tms p0 p1.toNat).2.2.2.1) && (((q0_Z1 p0 p1).1.2.2.2.2.1 == (v_tms p0 p1.toNat).2.2.2.2.1) && (((q0_Z1 p0 p1).1.2.2.2.2.2.1 == (v_tms p0 p1.toNat).2.2.2.2.2.1) && (((q0_Z1 p0 p1).1.2.2.2.2.2.2.1 == (v_tms p0 p1.toNat).2.2.2.2.2.2.1) && (((q0_Z1 p0 p1).1.2.2.2.2.2.2.2 == (v_tms p0 p1.toNat).2.2.2.2.2.2.2) && true)))))))) false)
abbrev q2_Z1 (p0:(List (Int×(Int×(Int×(Int×Int)))))) (p1:Int) := (((q0_Z1 p0 p1).2 == zz0)=((q0_Z1 p0 p1).2 == zz0))
abbrev q3_Z1 (p0:(List (Int×(Int×(Int×(Int×Int)))))) (p1:Int) := (((q0_Z1 p0 p1).1.1 == zz0) && (((q0_Z1 p0 p1).1.2.1 == zz0) && (((q0_Z1 p0 p1).1.2.2.1 == zz0) && (((q0_Z1 p0 p1).1.2.2.2.1 == zz0) && (((q0_Z1 p0 p1).1.2.2.2.2.1 == zz0) && (((q0_Z1 p0 p1).1.2.2.2.2.2.1 == zz0) && (((q0_Z1 p0 p1).1.2.2.2.2.2.2.1 == zz0) && (((q0_Z1 p0 p1).1.2.2.2.2.2.2.2 == zz0) && true))))))))
abbrev q4_Z1 (p0:(List (Int×(Int×(Int×(Int×Int)))))) := ((v_cs (([]:List (Int×(Int×(Int×(Int×Int))))) ++ p0)).2 != (v_cs p0).2)
def w_Z1 (p0:(List (Int×(Int×(Int×(Int×Int)))))) (p1:Int) (K:Bool→Prop):Prop := ((((!(s_Zk))=true) →(K false)) ∧(((!(s_Zk))=false) →((((!(decide ((p0.length:Int)≤22)))=true) →(K true)) ∧(((!(decide ((p0.length:Int)≤22)))=false) →(((((List.length ([]:List (Int×(Int×(Int×(Int×Int)))))) + p0.length) * 40)≤140737488355328) ∧(((((List.length ([]:List (Int×(Int×(Int×(Int×Int)))))) + p0.length) * 40)≤140737488355328) ∧((((q4_Z1 p0)=false) →((q4_Z1 p0)=(q4_Z1 p0))) ∧((((q4_Z1 p0)=false) →((q4_Z1 p0)=(q4_Z1 p0))) ∧(((q4_Z1 p0)=(q4_Z1 p0)) ∧((((cond (q4_Z1 p0) true ((v_cs (([]:List (Int×(Int×(Int×(Int×Int))))) ++ p0)).1 != (v_cs p0).1))=true) →(K false)) ∧(((cond (q4_Z1 p0) true ((v_cs (([]:List (Int×(Int×(Int×(Int×Int))))) ++ p0)).1 != (v_cs p0).1))=false) →(((((v_cs p0).2 == zz0)=true) →(((v_cs p0).2 == zz0)=((v_cs p0).2 == zz0))) ∧(((((v_cs p0).2 == zz0)=true) →(((v_cs p0).2 == zz0)=((v_cs p0).2 == zz0))) ∧(((((v_cs p0).2 == zz0)=true) →(((v_cs p0).2 == zz0)=((v_cs p0).2 == zz0))) ∧(((((v_cs p0).2 == zz0)=true) →(((v_cs p0).2 == zz0)=((v_cs p0).2 == zz0))) ∧(((((v_cs p0).2 == zz0)=true) →(((v_cs p0).2 == zz0)=((v_cs p0).2 == zz0))) ∧((((v_cs p0).2 == zz0)=((v_cs p0).2 == zz0)) ∧((((cond ((v_cs p0).2 == zz0) (!(s_Z3 p1 zz0 (wi ((p0.length:Int) - zz1)))) false)=true) →(((((6:Int) != zz0)=true) →(((((q0_Z1 p0 p1).2 == 6)=true) →(((q0_Z1 p0 p1).2 == 6)=((q0_Z1 p0 p1).2 == 6))) ∧(((((q0_Z1 p0 p1).2 == 6)=true) →(((q0_Z1 p0 p1).2 == 6)=((q0_Z1 p0 p1).2 == 6))) ∧((((q0_Z1 p0 p1).2 == 6)=((q0_Z1 p0 p1).2 == 6)) ∧(K (cond ((q0_Z1 p0 p1).2 == 6) (q3_Z1 p0 p1) false)))))) ∧((((6:Int) != zz0)=false) →(((((q0_Z1 p0 p1).2 == zz0)=true) →(q2_Z1 p0 p1)) ∧(((((q0_Z1 p0 p1).2 == zz0)=true) →(q2_Z1 p0 p1)) ∧(((((q0_Z1 p0 p1).2 == zz0)=true) →(v_smp p0)) ∧(((((q0_Z1 p0 p1).2 == zz0)=true) →(zz0≤p1)) ∧(((((q0_Z1 p0 p1).2 == zz0)=true) →(p1 < (p0.length:Int))) ∧(((((q0_Z1 p0 p1).2 == zz0)=true) →(q2_Z1 p0 p1)) ∧(((((q0_Z1 p0 p1).2 == zz0)=true) →(q2_Z1 p0 p1)) ∧((q2_Z1 p0 p1) ∧(K (q1_Z1 p0 p1))))))))))))) ∧(((cond ((v_cs p0).2 == zz0) (!(s_Z3 p1 zz0 (wi ((p0.length:Int) - zz1)))) false)=false) →(((((v_cs p0).2 != zz0)=true) →(((((q0_Z1 p0 p1).2 == (v_cs p0).2)=true) →(((q0_Z1 p0 p1).2 == (v_cs p0).2)=((q0_Z1 p0 p1).2 == (v_cs p0).2))) ∧(((((q0_Z1 p0 p1).2 == (v_cs p0).2)=true) →(((q0_Z1 p0 p1).2 == (v_cs p0).2)=((q0_Z1 p0 p1).2 == (v_cs p0).2))) ∧((((q0_Z1 p0 p1).2 == (v_cs p0).2)=((q0_Z1 p0 p1).2 == (v_cs p0).2)) ∧(K (cond ((q0_Z1 p0 p1).2 == (v_cs p0).2) (q3_Z1 p0 p1) false)))))) ∧((((v_cs p0).2 != zz0)=false) →(((((q0_Z1 p0 p1).2 == zz0)=true) →(q2_Z1 p0 p1)) ∧(((((q0_Z1 p0 p1).2 == zz0)=true) →(q2_Z1 p0 p1)) ∧(((((q0_Z1 p0 p1).2 == zz0)=true) →(v_smp p0)) ∧(((((q0_Z1 p0 p1).2 == zz0)=true) →(zz0≤p1)) ∧(((((q0_Z1 p0 p1).2 == zz0)=true) →(p1 < (p0.length:Int))) ∧(((((q0_Z1 p0 p1).2 == zz0)=true) →(q2_Z1 p0 p1)) ∧(((((q0_Z1 p0 p1).2 == zz0)=true) →(q2_Z1 p0 p1)) ∧((q2_Z1 p0 p1) ∧(K (q1_Z1 p0 p1)))))))))))))))))))))))))))))))
theorem w_Z1_eq (p0:(List (Int×(Int×(Int×(Int×Int)))))) (p1:Int) (K:Bool→Prop):tfn F_Z1 A_Z1 C_Z1 P_Z1 R_Z1 (p0,p1) K = w_Z1 p0 p1 K := by kernel_rfl
def s_Z1 (p0:(List (Int×(Int×(Int×(Int×Int)))))) (p1:Int):Bool := (cond (!(decide ((p0.length:Int)≤22))) true (cond (cond ((v_cs (([]:List (Int×(Int×(Int×(Int×Int))))) ++ p0)).2 != (v_cs p0).2) true ((v_cs (([]:List (Int×(Int×(Int×(Int×Int))))) ++ p0)).1 != (v_cs p0).1)) false (cond (cond ((v_cs p0).2 == 0) (!(s_Z3 p1 (0:Int) (IntKind.i64.wrap ((p0.length:Int) - 1)))) false) (cond ((v_tof (([]:List (Int×(Int×(Int×(Int×Int))))) ++ p0) p1).2 == 6) (((v_tof (([]:List (Int×(Int×(Int×(Int×Int))))) ++ p0) p1).1.1 == 0) && (((v_tof (([]:List (Int×(Int×(Int×(Int×Int))))) ++ p0) p1).1.2.1 == 0) && (((v_tof (([]:List (Int×(Int×(Int×(Int×Int))))) ++ p0) p1).1.2.2.1 == 0) && (((v_tof (([]:List (Int×(Int×(Int×(Int×Int))))) ++ p0) p1).1.2.2.2.1 == 0) && (((v_tof (([]:List (Int×(Int×(Int×(Int×Int))))) ++ p0) p1).1.2.2.2.2.1 == 0) && (((v_tof (([]:List (Int×(Int×(Int×(Int×Int))))) ++ p0) p1).1.2.2.2.2.2.1 == 0) && (((v_tof (([]:List (Int×(Int×(Int×(Int×Int))))) ++ p0) p1).1.2.2.2.2.2.2.1 == 0) && (((v_tof (([]:List (Int×(Int×(Int×(Int×Int))))) ++ p0) p1).1.2.2.2.2.2.2.2 == 0) && true)))))))) false) (cond ((v_cs p0).2 != 0) (cond ((v_tof (([]:List (Int×(Int×(Int×(Int×Int))))) ++ p0) p1).2 == (v_cs p0).2) (((v_tof (([]:List (Int×(Int×(Int×(Int×Int))))) ++ p0) p1).1.1 == 0) && (((v_tof (([]:List (Int×(Int×(Int×(Int×Int))))) ++ p0) p1).1.2.1 == 0) && (((v_tof (([]:List (Int×(Int×(Int×(Int×Int))))) ++ p0) p1).1.2.2.1 == 0) && (((v_tof (([]:List (Int×(Int×(Int×(Int×Int))))) ++ p0) p1).1.2.2.2.1 == 0) && (((v_tof (([]:List (Int×(Int×(Int×(Int×Int))))) ++ p0) p1).1.2.2.2.2.1 == 0) && (((v_tof (([]:List (Int×(Int×(Int×(Int×Int))))) ++ p0) p1).1.2.2.2.2.2.1 == 0) && (((v_tof (([]:List (Int×(Int×(Int×(Int×Int))))) ++ p0) p1).1.2.2.2.2.2.2.1 == 0) && (((v_tof (([]:List (Int×(Int×(Int×(Int×Int))))) ++ p0) p1).1.2.2.2.2.2.2.2 == 0) && true)))))))) false) (cond ((v_tof (([]:List (Int×(Int×(Int×(Int×Int))))) ++ p0) p1).2 == 0) (((v_tof (([]:List (Int×(Int×(Int×(Int×Int))))) ++ p0) p1).1.1 == (v_tms p0 p1.toNat).1) && (((v_tof (([]:List (Int×(Int×(Int×(Int×Int))))) ++ p0) p1).1.2.1 == (v_tms p0 p1.toNat).2.1) && (((v_tof (([]:List (Int×(Int×(Int×(Int×Int))))) ++ p0) p1).1.2.2.1 == (v_tms p0 p1.toNat).2.2.1) && (((v_tof (([]:List (Int×(Int×(Int×(Int×Int))))) ++ p0) p1).1.2.2.2.1 == (v_tms p0 p1.toNat).2.2.2.1) && (((v_tof (([]:List (Int×(Int×(Int×(Int×Int))))) ++ p0) p1).1.2.2.2.2.1 == (v_tms p0 p1.toNat).2.2.2.2.1) && (((v_tof (([]:List (Int×(Int×(Int×(Int×Int))))) ++ p0) p1).1.2.2.2.2.2.1 == (v_tms p0 p1.toNat).2.2.2.2.2.1) && (((v_tof (([]:List (Int×(Int×(Int×(Int×Int))))) ++ p0) p1).1.2.2.2.2.2.2.1 == (v_tms p0 p1.toNat).2.2.2.2.2.2.1) && (((v_tof (([]:List (Int×(Int×(Int×(Int×Int))))) ++ p0) p1).1.2.2.2.2.2.2.2 == (v_tms p0 p1.toNat).2.2.2.2.2.2.2) && true)))))))) false)))))
abbrev pre_Z1 (p0:(List (Int×(Int×(Int×(Int×Int)))))) (p1:Int):List Prop := [(((!(decide ((p0.length:Int)≤22)))=false)→((((List.length ([]:List (Int×(Int×(Int×(Int×Int)))))) + p0.length) * 40)≤140737488355328)),(((!(decide ((p0.length:Int)≤22)))=false)→(((cond ((v_cs (([]:List (Int×(Int×(Int×(Int×Int))))) ++ p0)).2 != (v_cs p0).2) true ((v_cs (([]:List (Int×(Int×(Int×(Int×Int))))) ++ p0)).1 != (v_cs p0).1))=false)→(((cond ((v_cs p0).2 == 0) (!(s_Z3 p1 (0:Int) (IntKind.i64.wrap ((p0.length:Int) - 1)))) false)=false)→((((v_cs p0).2 != 0)=false)→((((v_tof (([]:List (Int×(Int×(Int×(Int×Int))))) ++ p0) p1).2 == 0)=true)→(v_smp p0)))))),(((!(decide ((p0.length:Int)≤22)))=false)→(((cond ((v_cs (([]:List (Int×(Int×(Int×(Int×Int))))) ++ p0)).2 != (v_cs p0).2) true ((v_cs (([]:List (Int×(Int×(Int×(Int×Int))))) ++ p0)).1 != (v_cs p0).1))=false)→(((cond ((v_cs p0).2 == 0) (!(s_Z3 p1 (0:Int) (IntKind.i64.wrap ((p0.length:Int) - 1)))) false)=false)→((((v_cs p0).2 != 0)=false)→((((v_tof (([]:List (Int×(Int×(Int×(Int×Int))))) ++ p0) p1).2 == 0)=true)→((0:Int)≤p1)))))),(((!(decide ((p0.length:Int)≤22)))=false)→(((cond ((v_cs (([]:List (Int×(Int×(Int×(Int×Int))))) ++ p0)).2 != (v_cs p0).2) true ((v_cs (([]:List (Int×(Int×(Int×(Int×Int))))) ++ p0)).1 != (v_cs p0).1))=false)→(((cond ((v_cs p0).2 == 0) (!(s_Z3 p1 (0:Int) (IntKind.i64.wrap ((p0.length:Int) - 1)))) false)=false)→((((v_cs p0).2 != 0)=false)→((((v_tof (([]:List (Int×(Int×(Int×(Int×Int))))) ++ p0) p1).2 == 0)=true)→(p1 < (p0.length:Int)))))))]
theorem d_Z1 (p0:(List (Int×(Int×(Int×(Int×Int)))))) (p1:Int) (K:Bool→Prop) (hp:∀ p∈pre_Z1 p0 p1,p) (h:K (s_Z1 p0 p1)):w_Z1 p0 p1 K := by
 unfold w_Z1
 unfold s_Z1 at h
 obtain ⟨hp0,hp1,hp2,hp3,_⟩ := conj_of hp
 exact ⟨nof,fun _ => (br' h (fun e0 h => h)
  (fun e0 h => ⟨(hp0 e0),(hp0 e0),rf,rf,rfl,(br' h (fun e1 h => h)
  (fun e1 h => ⟨rf,rf,rf,rf,rf,rfl,(br' h (fun e2 h => ⟨fun _ => ⟨rf,rf,rfl,h⟩,fun e => Bool.noConfusion (show true = false from e)⟩)
  (fun e2 h => (br' h (fun e3 h => ⟨rf,rf,rfl,h⟩)
  (fun e3 h => ⟨rf,rf,(hp1 e0 e1 e2 e3),(hp2 e0 e1 e2 e3),(hp3 e0 e1 e2 e3),rf,rf,rfl,h⟩))))⟩))⟩))⟩
abbrev con_Z1:Con := ⟨P_Z1,R_Z1,fun x => pre_Z1 x.1 x.2,fun x => s_Z1 x.1 x.2⟩
theorem ok_Z1:ConOk Try.prog 5 con_Z1 := okG k_Z1 e_Z1 hC_Z1 fun x hx => tf_of (w_Z1_eq x.1 x.2 _) (d_Z1 x.1 x.2 _ hx rfl)
end Go.Proofs.Ytdkhhafmidokmaa
