/- What the functions that MagnetCompensated reaches compute: contracts, each function once. No condition. -/
import Derived.Test.YtdkhhafmidokmaaLayB
import Derived.Test.YtdkhhafmidokmaaAwMMagnetCompensated
import Derived.KernelRfl
namespace Go.Proofs.Ytdkhhafmidokmaa
open Go Go.Mx
set_option maxRecDepth 100000
set_option maxHeartbeats 4000000
abbrev gF:=List Int
abbrev gG:=Int×Int
abbrev gA:=List (List Int×List Int)
abbrev gB:=List (Int×Int×Int)
abbrev gC:=List (Int×Int)
abbrev gE:=Int×List Int
abbrev gD:=(Int×List Int)×(Int×List Int)
theorem fM.{u} {α:Type u} {p:α→Prop} {a:α} {l:List α}:(∀ x∈a::l,p x) ↔ p a ∧ ∀ x∈l,p x := List.forall_mem_cons
theorem cC {P:Program} {f:FuncId} {ids:List FuncId} {c:Con} {C:Cons} (h:ConOk P f c) (hC:ConsOk P C) (hm:isMark ids=false := by rfl):ConsOk P ((f,ids,c)::C) := ConsOk.cons h hC hm
theorem okG {P:Program} {f:FuncId} {F:TFn} {A:Nat→Ty} {C:Cons} {ps rs:List PSh} {pre:(tyPs ps).den→List Prop} {s:(tyPs ps).den→(tyPs rs).den} (k:callable P f=true) (e:cFn P f=some F.erase) (hC:ConsOk P C) (h:∀ x,(∀ p∈pre x,p)→Tf F A C ps rs x (fun z => z=s x)):ConOk P f ⟨ps,rs,pre,s⟩ := ⟨k,fun x hx => ret_tf e hC (h x hx)⟩
abbrev wi (n:Int):Int := IntKind.i64.wrap n
abbrev zz0:Int := 0
abbrev zz1:Int := 1
abbrev zz2:Int := 2
theorem od {p:Prop} [Decidable p] (h:decide p = true):p := of_decide_eq_true h
theorem nof {p:Prop} (h:false = true):p := Bool.noConfusion h
theorem rf {p:Prop} {α:Sort _} {a:α} (_:p):a = a := rfl

def v_ceil (a b:Int):Int := -((-a) / b)
def C_Z12:Cons := []
theorem hC_Z12:ConsOk Try.prog C_Z12 := ConsOk.nil
def w_Z12 (p0:(List (Int×(Int×(Int×(Int×Int)))))) (K:Bool→Prop):Prop := (K (decide ((p0.length:Int)≤22)))
theorem w_Z12_eq (p0:(List (Int×(Int×(Int×(Int×Int)))))) (K:Bool→Prop):tfn F_Z12 A_Z12 C_Z12 P_Z12 R_Z12 p0 K = w_Z12 p0 K := by kernel_rfl
def s_Z12 (p0:(List (Int×(Int×(Int×(Int×Int)))))):Bool := (decide ((p0.length:Int)≤22))
abbrev pre_Z12 (_p0:(List (Int×(Int×(Int×(Int×Int)))))):List Prop := []
theorem d_Z12 (p0:(List (Int×(Int×(Int×(Int×Int)))))) (K:Bool→Prop) (_hp:∀ p∈pre_Z12 p0,p) (h:K (s_Z12 p0)):w_Z12 p0 K := by
 unfold w_Z12
 unfold s_Z12 at h
 exact h
abbrev con_Z12:Con := ⟨P_Z12,R_Z12,fun x => pre_Z12 x,fun x => s_Z12 x⟩
theorem ok_Z12:ConOk Try.prog 20 con_Z12 := okG k_Z12 e_Z12 hC_Z12 fun x hx => tf_of (w_Z12_eq x _) (d_Z12 x _ hx rfl)
def C_Z13:Cons := []
theorem hC_Z13:ConsOk Try.prog C_Z13 := ConsOk.nil
def w_Z13 (p0:(List (Int×(Int×(Int×(Int×Int)))))) (K:(List (Int×(Int×(Int×(Int×Int)))))→Prop):Prop := (((((List.length ([]:List (Int×(Int×(Int×(Int×Int)))))) + p0.length) * 40)≤140737488355328) ∧(K (([]:List (Int×(Int×(Int×(Int×Int))))) ++ p0)))
theorem w_Z13_eq (p0:(List (Int×(Int×(Int×(Int×Int)))))) (K:(List (Int×(Int×(Int×(Int×Int)))))→Prop):tfn F_Z13 A_Z13 C_Z13 P_Z13 R_Z13 p0 K = w_Z13 p0 K := by kernel_rfl
def s_Z13 (p0:(List (Int×(Int×(Int×(Int×Int)))))):(List (Int×(Int×(Int×(Int×Int))))) := (([]:List (Int×(Int×(Int×(Int×Int))))) ++ p0)
abbrev pre_Z13 (p0:(List (Int×(Int×(Int×(Int×Int)))))):List Prop := [((((List.length ([]:List (Int×(Int×(Int×(Int×Int)))))) + p0.length) * 40)≤140737488355328)]
theorem d_Z13 (p0:(List (Int×(Int×(Int×(Int×Int)))))) (K:(List (Int×(Int×(Int×(Int×Int)))))→Prop) (hp:∀ p∈pre_Z13 p0,p) (h:K (s_Z13 p0)):w_Z13 p0 K := by
 unfold w_Z13
 unfold s_Z13 at h
 obtain ⟨hp0,_⟩ := conj_of hp
 exact ⟨(hp0),h⟩
abbrev con_Z13:Con := ⟨P_Z13,R_Z13,fun x => pre_Z13 x,fun x => s_Z13 x⟩
theorem ok_Z13:ConOk Try.prog 22 con_Z13 := okG k_Z13 e_Z13 hC_Z13 fun x hx => tf_of (w_Z13_eq x _) (d_Z13 x _ hx rfl)
def C_Z4:Cons := []
theorem hC_Z4:ConsOk Try.prog C_Z4 := ConsOk.nil
def w_Z4 (p0:Int) (p1:Int) (p2:Int) (K:Bool→Prop):Prop := ((((decide (p1≤p0))=true) →((decide (p1≤p0))=(decide (p1≤p0)))) ∧((((decide (p1≤p0))=true) →((decide (p1≤p0))=(decide (p1≤p0)))) ∧(((decide (p1≤p0))=(decide (p1≤p0))) ∧(K (cond (decide (p1≤p0)) (decide (p0≤p2)) false)))))
theorem w_Z4_eq (p0:Int) (p1:Int) (p2:Int) (K:Bool→Prop):tfn F_Z4 A_Z4 C_Z4 P_Z4 R_Z4 (p0,p1,p2) K = w_Z4 p0 p1 p2 K := by kernel_rfl
def s_Z4 (p0:Int) (p1:Int) (p2:Int):Bool := (cond (decide (p1≤p0)) (decide (p0≤p2)) false)
abbrev pre_Z4 (_p0:Int) (_p1:Int) (_p2:Int):List Prop := []
theorem d_Z4 (p0:Int) (p1:Int) (p2:Int) (K:Bool→Prop) (_hp:∀ p∈pre_Z4 p0 p1 p2,p) (h:K (s_Z4 p0 p1 p2)):w_Z4 p0 p1 p2 K := by
 unfold w_Z4
 unfold s_Z4 at h
 exact ⟨rf,rf,rfl,h⟩
abbrev con_Z4:Con := ⟨P_Z4,R_Z4,fun x => pre_Z4 x.1 x.2.1 x.2.2,fun x => s_Z4 x.1 x.2.1 x.2.2⟩
theorem ok_Z4:ConOk Try.prog 17 con_Z4 := okG k_Z4 e_Z4 hC_Z4 fun x hx => tf_of (w_Z4_eq x.1 x.2.1 x.2.2 _) (d_Z4 x.1 x.2.1 x.2.2 _ hx rfl)
theorem tx_within {n lo hi:Int}:s_Z4 n lo hi = true ↔ lo≤n∧n≤hi := by unfold s_Z4; simp
def C_Z6:Cons := []
theorem hC_Z6:ConsOk Try.prog C_Z6 := ConsOk.nil
def w_Z6 (p0:Int) (p1:Int) (p2:Int) (K:Bool→Prop):Prop := ((((decide (p1≤p0))=true) →((decide (p1≤p0))=(decide (p1≤p0)))) ∧((((decide (p1≤p0))=true) →((decide (p1≤p0))=(decide (p1≤p0)))) ∧(((decide (p1≤p0))=(decide (p1≤p0))) ∧(K (cond (decide (p1≤p0)) (decide (p0≤p2)) false)))))
theorem w_Z6_eq (p0:Int) (p1:Int) (p2:Int) (K:Bool→Prop):tfn F_Z6 A_Z6 C_Z6 P_Z6 R_Z6 (p0,p1,p2) K = w_Z6 p0 p1 p2 K := by kernel_rfl
def s_Z6 (p0:Int) (p1:Int) (p2:Int):Bool := (cond (decide (p1≤p0)) (decide (p0≤p2)) false)
abbrev pre_Z6 (_p0:Int) (_p1:Int) (_p2:Int):List Prop := []
theorem d_Z6 (p0:Int) (p1:Int) (p2:Int) (K:Bool→Prop) (_hp:∀ p∈pre_Z6 p0 p1 p2,p) (h:K (s_Z6 p0 p1 p2)):w_Z6 p0 p1 p2 K := by
 unfold w_Z6
 unfold s_Z6 at h
 exact ⟨rf,rf,rfl,h⟩
abbrev con_Z6:Con := ⟨P_Z6,R_Z6,fun x => pre_Z6 x.1 x.2.1 x.2.2,fun x => s_Z6 x.1 x.2.1 x.2.2⟩
theorem ok_Z6:ConOk Try.prog 86 con_Z6 := okG k_Z6 e_Z6 hC_Z6 fun x hx => tf_of (w_Z6_eq x.1 x.2.1 x.2.2 _) (d_Z6 x.1 x.2.1 x.2.2 _ hx rfl)
theorem tx_withinG {n lo hi:Int}:s_Z6 n lo hi = s_Z4 n lo hi := rfl
def C_Zz:Cons := [(17,[],con_Z4)]
theorem hC_Zz:ConsOk Try.prog C_Zz := cC ok_Z4 <| ConsOk.nil
def w_Zz (p0:Int) (K:Bool→Prop):Prop := (K (s_Z4 p0 zz0 (1000000000000:Int)))
theorem w_Zz_eq (p0:Int) (K:Bool→Prop):tfn F_Zz A_Zz C_Zz P_Zz R_Zz p0 K = w_Zz p0 K := by kernel_rfl
def s_Zz (p0:Int):Bool := (s_Z4 p0 (0:Int) (1000000000000:Int))
abbrev pre_Zz (_p0:Int):List Prop := []
theorem d_Zz (p0:Int) (K:Bool→Prop) (_hp:∀ p∈pre_Zz p0,p) (h:K (s_Zz p0)):w_Zz p0 K := by
 unfold w_Zz
 unfold s_Zz at h
 exact h
abbrev con_Zz:Con := ⟨P_Zz,R_Zz,fun x => pre_Zz x,fun x => s_Zz x⟩
theorem ok_Zz:ConOk Try.prog 88 con_Zz := okG k_Zz e_Zz hC_Zz fun x hx => tf_of (w_Zz_eq x _) (d_Zz x _ hx rfl)
def C_Z10:Cons := [(17,[],con_Z4)]
theorem hC_Z10:ConsOk Try.prog C_Z10 := cC ok_Z4 <| ConsOk.nil
def w_Z10 (p0:Int) (K:Bool→Prop):Prop := (K (s_Z4 p0 (-10:Int) (10:Int)))
theorem w_Z10_eq (p0:Int) (K:Bool→Prop):tfn F_Z10 A_Z10 C_Z10 P_Z10 R_Z10 p0 K = w_Z10 p0 K := by kernel_rfl
def s_Z10 (p0:Int):Bool := (s_Z4 p0 (-10:Int) (10:Int))
abbrev pre_Z10 (_p0:Int):List Prop := []
theorem d_Z10 (p0:Int) (K:Bool→Prop) (_hp:∀ p∈pre_Z10 p0,p) (h:K (s_Z10 p0)):w_Z10 p0 K := by
 unfold w_Z10
 unfold s_Z10 at h
 exact h
abbrev con_Z10:Con := ⟨P_Z10,R_Z10,fun x => pre_Z10 x,fun x => s_Z10 x⟩
theorem ok_Z10:ConOk Try.prog 89 con_Z10 := okG k_Z10 e_Z10 hC_Z10 fun x hx => tf_of (w_Z10_eq x _) (d_Z10 x _ hx rfl)
def C_Z11:Cons := [(17,[],con_Z4)]
theorem hC_Z11:ConsOk Try.prog C_Z11 := cC ok_Z4 <| ConsOk.nil
def w_Z11 (p0:Int) (K:Bool→Prop):Prop := (K (s_Z4 p0 (-100000:Int) (100000:Int)))
theorem w_Z11_eq (p0:Int) (K:Bool→Prop):tfn F_Z11 A_Z11 C_Z11 P_Z11 R_Z11 p0 K = w_Z11 p0 K := by kernel_rfl
def s_Z11 (p0:Int):Bool := (s_Z4 p0 (-100000:Int) (100000:Int))
abbrev pre_Z11 (_p0:Int):List Prop := []
theorem d_Z11 (p0:Int) (K:Bool→Prop) (_hp:∀ p∈pre_Z11 p0,p) (h:K (s_Z11 p0)):w_Z11 p0 K := by
 unfold w_Z11
 unfold s_Z11 at h
 exact h
abbrev con_Z11:Con := ⟨P_Z11,R_Z11,fun x => pre_Z11 x,fun x => s_Z11 x⟩
theorem ok_Z11:ConOk Try.prog 90 con_Z11 := okG k_Z11 e_Z11 hC_Z11 fun x hx => tf_of (w_Z11_eq x _) (d_Z11 x _ hx rfl)
def C_Z5:Cons := [(88,[],con_Zz),(89,[],con_Z10),(90,[],con_Z11)]
theorem hC_Z5:ConsOk Try.prog C_Z5 := cC ok_Zz <| cC ok_Z10 <| cC ok_Z11 <| ConsOk.nil
abbrev q3_Z5 (p0:(List (Int×(Int×(Int×(Int×Int)))))) (y1:Int) := (!(s_Z4 (p0.getD y1.toNat (zz0,(zz0,(zz0,(zz0,zz0))))).1 zz0 (1000000000000:Int)))
abbrev q1_Z5 (p0:(List (Int×(Int×(Int×(Int×Int)))))) (y1:Int) := (cond (q3_Z5 p0 y1) true (!(s_Z4 (p0.getD y1.toNat (zz0,(zz0,(zz0,(zz0,zz0))))).2.1 (-10:Int) (10:Int))))
abbrev q0_Z5 (p0:(List (Int×(Int×(Int×(Int×Int)))))) (y1:Int) := (cond (q1_Z5 p0 y1) true (!(s_Z4 (p0.getD y1.toNat (zz0,(zz0,(zz0,(zz0,zz0))))).2.2.1 (-10:Int) (10:Int))))
abbrev q2_Z5 (p0:(List (Int×(Int×(Int×(Int×Int)))))) (y1:Int) := (cond (q0_Z5 p0 y1) true (!(s_Z4 (p0.getD y1.toNat (zz0,(zz0,(zz0,(zz0,zz0))))).2.2.2.1 (-10:Int) (10:Int))))
def w_Z5 (p0:(List (Int×(Int×(Int×(Int×Int)))))) (K:(Int×Int)→Prop):Prop := (((((p0.length:Int) == zz0)=true) →(K (zz0,(10:Int)))) ∧((((p0.length:Int) == zz0)=false) →((((decide ((p0.length:Int) > 20))=true) →(K (zz0,(8:Int)))) ∧(((decide ((p0.length:Int) > 20))=false) →(∃ n0,(loopP (fun (y1:Int) k2 => ((((decide (y1 < (p0.length:Int)))=true) →((zz0≤y1) ∧((y1 < (p0.length:Int)) ∧((((q3_Z5 p0 y1)=false) →((q3_Z5 p0 y1)=(q3_Z5 p0 y1))) ∧((((q3_Z5 p0 y1)=false) →((q3_Z5 p0 y1)=(q3_Z5 p0 y1))) ∧((((q3_Z5 p0 y1)=false) →((q3_Z5 p0 y1)=(q3_Z5 p0 y1))) ∧(((q3_Z5 p0 y1)=(q3_Z5 p0 y1)) ∧((((q1_Z5 p0 y1)=false) →((q1_Z5 p0 y1)=(q1_Z5 p0 y1))) ∧((((q1_Z5 p0 y1)=false) →((q1_Z5 p0 y1)=(q1_Z5 p0 y1))) ∧((((q1_Z5 p0 y1)=false) →((q1_Z5 p0 y1)=(q1_Z5 p0 y1))) ∧(((q1_Z5 p0 y1)=(q1_Z5 p0 y1)) ∧((((q0_Z5 p0 y1)=false) →((q0_Z5 p0 y1)=(q0_Z5 p0 y1))) ∧((((q0_Z5 p0 y1)=false) →((q0_Z5 p0 y1)=(q0_Z5 p0 y1))) ∧((((q0_Z5 p0 y1)=false) →((q0_Z5 p0 y1)=(q0_Z5 p0 y1))) ∧(((q0_Z5 p0 y1)=(q0_Z5 p0 y1)) ∧((((q2_Z5 p0 y1)=false) →((q2_Z5 p0 y1)=(q2_Z5 p0 y1))) ∧((((q2_Z5 p0 y1)=false) →((q2_Z5 p0 y1)=(q2_Z5 p0 y1))) ∧((((q2_Z5 p0 y1)=false) →((q2_Z5 p0 y1)=(q2_Z5 p0 y1))) ∧(((q2_Z5 p0 y1)=(q2_Z5 p0 y1)) ∧((((cond (q2_Z5 p0 y1) true (!(s_Z4 (p0.getD y1.toNat (zz0,(zz0,(zz0,(zz0,zz0))))).2.2.2.2 (-100000:Int) (100000:Int))))=true) →(K (y1,zz2))) ∧(((cond (q2_Z5 p0 y1) true (!(s_Z4 (p0.getD y1.toNat (zz0,(zz0,(zz0,(zz0,zz0))))).2.2.2.2 (-100000:Int) (100000:Int))))=false) →((((decide (y1 > zz0))=true) →((decide (y1 > zz0))=(decide (y1 > zz0)))) ∧((((decide (y1 > zz0))=true) →((decide (y1 > zz0))=(decide (y1 > zz0)))) ∧((((decide (y1 > zz0))=true) →((decide (y1 > zz0))=(decide (y1 > zz0)))) ∧((((decide (y1 > zz0))=true) →((decide (y1 > zz0))=(decide (y1 > zz0)))) ∧((((decide (y1 > zz0))=true) →(zz0≤(wi (y1 - zz1)))) ∧((((decide (y1 > zz0))=true) →((wi (y1 - zz1)) < (p0.length:Int))) ∧((((decide (y1 > zz0))=true) →((decide (y1 > zz0))=(decide (y1 > zz0)))) ∧((((decide (y1 > zz0))=true) →((decide (y1 > zz0))=(decide (y1 > zz0)))) ∧((((decide (y1 > zz0))=true) →((decide (y1 > zz0))=(decide (y1 > zz0)))) ∧((((decide (y1 > zz0))=true) →((decide (y1 > zz0))=(decide (y1 > zz0)))) ∧(((decide (y1 > zz0))=(decide (y1 > zz0))) ∧((((cond (decide (y1 > zz0)) (decide ((p0.getD y1.toNat (zz0,(zz0,(zz0,(zz0,zz0))))).1≤(p0.getD (Int.toNat (wi (y1 - zz1))) (zz0,(zz0,(zz0,(zz0,zz0))))).1)) false)=true) →(K (y1,(9:Int)))) ∧(((cond (decide (y1 > zz0)) (decide ((p0.getD y1.toNat (zz0,(zz0,(zz0,(zz0,zz0))))).1≤(p0.getD (Int.toNat (wi (y1 - zz1))) (zz0,(zz0,(zz0,(zz0,zz0))))).1)) false)=false) →(k2 (wi (y1 + zz1))))))))))))))))))))))))))))))))))))) ∧(((decide (y1 < (p0.length:Int)))=false) →(K (zz0,zz0))))) n0 zz0))))))
theorem w_Z5_eq (p0:(List (Int×(Int×(Int×(Int×Int)))))) (K:(Int×Int)→Prop):tfn F_Z5 A_Z5 C_Z5 P_Z5 R_Z5 p0 K = w_Z5 p0 K := by kernel_rfl
def st_Z5_0 (p0:(List (Int×(Int×(Int×(Int×Int)))))) (y2:Int):Int ⊕ (Int×Int) := (cond (decide (y2 < (p0.length:Int))) (cond (cond (cond (cond (cond (!(s_Z4 (p0.getD y2.toNat ((0:Int),((0:Int),((0:Int),(0,0))))).1 (0:Int) (1000000000000:Int))) true (!(s_Z4 (p0.getD y2.toNat ((0:Int),((0:Int),((0:Int),(0,0))))).2.1 (-10:Int) (10:Int)))) true (!(s_Z4 (p0.getD y2.toNat ((0:Int),((0:Int),((0:Int),(0,0))))).2.2.1 (-10:Int) (10:Int)))) true (!(s_Z4 (p0.getD y2.toNat ((0:Int),((0:Int),((0:Int),(0,0))))).2.2.2.1 (-10:Int) (10:Int)))) true (!(s_Z4 (p0.getD y2.toNat ((0:Int),((0:Int),((0:Int),(0,0))))).2.2.2.2 (-100000:Int) (100000:Int)))) (Sum.inr (y2,(2:Int))) (cond (cond (decide (y2 > 0)) (decide ((p0.getD y2.toNat ((0:Int),((0:Int),((0:Int),(0,0))))).1≤(p0.getD (Int.toNat (IntKind.i64.wrap (y2 - 1))) ((0:Int),((0:Int),((0:Int),(0,0))))).1)) false) (Sum.inr (y2,(9:Int))) (Sum.inl (IntKind.i64.wrap (y2 + 1))))) (Sum.inr (0,0)))
abbrev sp_Z5_0 (p0:(List (Int×(Int×(Int×(Int×Int)))))) (y2:Int):List Prop := [(((decide (y2 < (p0.length:Int)))=true)→((0:Int)≤y2)),(((decide (y2 < (p0.length:Int)))=true)→(y2 < (p0.length:Int))),(((decide (y2 < (p0.length:Int)))=true)→(((cond (cond (cond (cond (!(s_Z4 (p0.getD y2.toNat ((0:Int),((0:Int),((0:Int),(0,0))))).1 (0:Int) (1000000000000:Int))) true (!(s_Z4 (p0.getD y2.toNat ((0:Int),((0:Int),((0:Int),(0,0))))).2.1 (-10:Int) (10:Int)))) true (!(s_Z4 (p0.getD y2.toNat ((0:Int),((0:Int),((0:Int),(0,0))))).2.2.1 (-10:Int) (10:Int)))) true (!(s_Z4 (p0.getD y2.toNat ((0:Int),((0:Int),((0:Int),(0,0))))).2.2.2.1 (-10:Int) (10:Int)))) true (!(s_Z4 (p0.getD y2.toNat ((0:Int),((0:Int),((0:Int),(0,0))))).2.2.2.2 (-100000:Int) (100000:Int))))=false)→(((decide (y2 > 0))=true)→((0:Int)≤(IntKind.i64.wrap (y2 - 1)))))),(((decide (y2 < (p0.length:Int)))=true)→(((cond (cond (cond (cond (!(s_Z4 (p0.getD y2.toNat ((0:Int),((0:Int),((0:Int),(0,0))))).1 (0:Int) (1000000000000:Int))) true (!(s_Z4 (p0.getD y2.toNat ((0:Int),((0:Int),((0:Int),(0,0))))).2.1 (-10:Int) (10:Int)))) true (!(s_Z4 (p0.getD y2.toNat ((0:Int),((0:Int),((0:Int),(0,0))))).2.2.1 (-10:Int) (10:Int)))) true (!(s_Z4 (p0.getD y2.toNat ((0:Int),((0:Int),((0:Int),(0,0))))).2.2.2.1 (-10:Int) (10:Int)))) true (!(s_Z4 (p0.getD y2.toNat ((0:Int),((0:Int),((0:Int),(0,0))))).2.2.2.2 (-100000:Int) (100000:Int))))=false)→(((decide (y2 > 0))=true)→((IntKind.i64.wrap (y2 - 1)) < (p0.length:Int)))))]
def s_Z5 (p0:(List (Int×(Int×(Int×(Int×Int)))))):(Int×Int) := (cond ((p0.length:Int) == 0) ((0:Int),(10:Int)) (cond (decide ((p0.length:Int) > 20)) ((0:Int),(8:Int)) (lpv (0,0) (st_Z5_0 p0) (0:Int))))
abbrev pre_Z5 (p0:(List (Int×(Int×(Int×(Int×Int)))))):List Prop := [((((p0.length:Int) == 0)=false)→(((decide ((p0.length:Int) > 20))=false)→(OkL (st_Z5_0 p0) (sp_Z5_0 p0) (0:Int))))]
theorem d_Z5 (p0:(List (Int×(Int×(Int×(Int×Int)))))) (K:(Int×Int)→Prop) (hp:∀ p∈pre_Z5 p0,p) (h:K (s_Z5 p0)):w_Z5 p0 K := by
 unfold w_Z5
 unfold s_Z5 at h
 obtain ⟨hp0,_⟩ := conj_of hp
 exact (br' h (fun e0 h => h)
  (fun e0 h => (br' h (fun e1 h => h)
  (fun e1 h => (loop_gen (hp0 e0 e1) h (fun y2 k2 hp h => by
 unfold st_Z5_0 at h; obtain ⟨hp0,hp1,hp2,hp3,_⟩ := conj_of hp
 exact (br' h (fun e3 h => ⟨(hp0 e3),(hp1 e3),rf,rf,rf,rfl,rf,rf,rf,rfl,rf,rf,rf,rfl,rf,rf,rf,rfl,(br' h (fun e4 h => h)
  (fun e4 h => ⟨rf,rf,rf,rf,(hp2 e3 e4),(hp3 e3 e4),rf,rf,rf,rf,rfl,(br' h (fun e5 h => h)
  (fun e5 h => h))⟩))⟩)
  (fun e3 h => h))))))))
/-- Whether a sample is valid; what is wrong with one of samples; with samples. -/
def v_sval (x:Int×Int×Int×Int×Int):Bool := cond (s_Z4 x.1 0 1000000000000) (cond (s_Z4 x.2.1 (-10) 10) (cond (s_Z4 x.2.2.1 (-10) 10) (cond (s_Z4 x.2.2.2.1 (-10) 10) (s_Z4 x.2.2.2.2 (-100000) 100000) false) false) false) false
def v_cs1 (l:List (Int×Int×Int×Int×Int)) (i:Int) (x:Int×Int×Int×Int×Int):Option (Int×Int) := cond (v_sval x) (cond (cond (i == 0) true (decide (x.1 > (l.getD (i - 1).toNat (0,0,0,0,0)).1))) none (some (i,9))) (some (i,2))
def v_cs (l:List (Int×Int×Int×Int×Int)):Int×Int := cond ((l.length:Int) == 0) (0,10) (cond (decide ((l.length:Int) > 20)) (0,8) (v_scan (v_cs1 l) (0,0) 0 l))
theorem v_svalr {x:Int×Int×Int×Int×Int}:cond (cond (cond (cond (!(s_Z4 x.1 0 1000000000000)) true (!(s_Z4 x.2.1 (-10) 10))) true (!(s_Z4 x.2.2.1 (-10) 10))) true (!(s_Z4 x.2.2.2.1 (-10) 10))) true (!(s_Z4 x.2.2.2.2 (-100000) 100000)) = !(v_sval x) := by
 unfold v_sval
 cases s_Z4 x.1 0 1000000000000 <;> cases s_Z4 x.2.1 (-10) 10 <;> cases s_Z4 x.2.2.1 (-10) 10 <;> cases s_Z4 x.2.2.2.1 (-10) 10 <;> cases s_Z4 x.2.2.2.2 (-100000) 100000 <;> rfl
theorem l_Z5_0 (p0:List (Int×Int×Int×Int×Int)) (hl:p0.length≤20):OkL (st_Z5_0 p0) (sp_Z5_0 p0) 0∧lpv ((0,0):Int×Int) (st_Z5_0 p0) 0 = v_scan (v_cs1 p0) ((0,0):Int×Int) 0 p0 := by
 refine scan_is p0 (0,0,0,0,0) (v_cs1 p0) ((0,0):Int×Int) (lenOk_le hl (by decide)) ?_ ?_
 ·refine ⟨by simp only [sp_Z5_0,fM,decide_eq_true_eq]; simp,by simp [st_Z5_0]⟩
 ·intro j hj
  have hj' : (j:Int) < p0.length := by omega
  have hw := wrap_nat (show (j:Int)≤9223372036854775806 by omega)
  have hw2:IntKind.i64.wrap ((j:Int) - 1)=(j:Int) - 1 := wrap_id (by omega) (by omega)
  refine ⟨by simp only [sp_Z5_0,fM,decide_eq_true_eq,Int.toNat_natCast]; rw [hw2]; and_intros <;> first | (intro p hp; cases hp; done) | (intros; first | omega | (simp_all; done) | (simp_all; omega)),?_⟩
  simp only [st_Z5_0,hj',decide_true,Int.toNat_natCast,cond_true,hw,s_Zz,s_Z10,s_Z11,v_svalr,hw2]
  unfold v_cs1
  cases v_sval (p0.getD j (0,0,0,0,0))
  ·rfl
  ·rcases int0 (j:Int) with ⟨hj0,_,z⟩ | ⟨hj0,_,z⟩ <;> rw [z]
   ·rw [decide_eq_false (show ¬ (j:Int) > 0 by omega)]; rfl
   ·rw [decide_eq_true (show (j:Int) > 0 by omega)]
    rcases dec0 (a := (p0.getD ((j:Int) - 1).toNat (0,0,0,0,0)).1) (b := (p0.getD j (0,0,0,0,0)).1) with ⟨_,c1,c2,c3,c4⟩ | ⟨_,c1,c2,c3,c4⟩ <;> simp only [c3,c4] <;> rfl
abbrev t_Z5 (p0:List (Int×Int×Int×Int×Int)):Int×Int := v_cs p0
abbrev qre_Z5 (_p0:List (Int×Int×Int×Int×Int)):List Prop := []
theorem pp_Z5 (p0:List (Int×Int×Int×Int×Int)) (_hq:∀ p∈qre_Z5 p0,p):∀ p∈pre_Z5 p0,p := by
 simp only [pre_Z5,fM]
 exact ⟨fun _ h => (l_Z5_0 p0 (by have := of_decide_eq_false h; omega)).1,by simp⟩
theorem tt_Z5 (p0:List (Int×Int×Int×Int×Int)) (_hq:∀ p∈qre_Z5 p0,p):s_Z5 p0 = t_Z5 p0 := by
 unfold s_Z5 t_Z5 v_cs
 cases h:decide ((p0.length:Int) > 20)
 ·rw [(l_Z5_0 p0 (by have := of_decide_eq_false h; omega)).2]
 ·rfl

abbrev con_Z5:Con := ⟨P_Z5,R_Z5,fun x => qre_Z5 x,fun x => t_Z5 x⟩
theorem ok_Z5:ConOk Try.prog 34 con_Z5 := okG k_Z5 e_Z5 hC_Z5 fun x hx => tf_of (w_Z5_eq x _) (d_Z5 x _ (pp_Z5 x hx) (tt_Z5 x hx))
def C_Z9:Cons := []
theorem hC_Z9:ConsOk Try.prog C_Z9 := ConsOk.nil
def w_Z9 (p0:gF) (K:Int→Prop):Prop := (∃ n0,(loopP (fun (y1:Int) k2 => ((((decide (y1 < (p0.length:Int)))=true) →((zz0≤y1) ∧((y1 < (p0.length:Int)) ∧(((((p0.getD y1.toNat zz0) != 0)=true) →(K (p0.getD y1.toNat zz0))) ∧((((p0.getD y1.toNat zz0) != 0)=false) →(k2 (IntKind.i64.wrap (y1 + 1)))))))) ∧(((decide (y1 < (p0.length:Int)))=false) →(K zz0)))) n0 zz0))
theorem w_Z9_eq (p0:gF) (K:Int→Prop):tfn F_Z9 A_Z9 C_Z9 P_Z9 R_Z9 p0 K = w_Z9 p0 K := by kernel_rfl
def st_Z9_0 (p0:gF) (y0:Int):Int ⊕ Int := (cond (decide (y0 < (p0.length:Int))) (cond ((p0.getD y0.toNat (0:Int)) != 0) (Sum.inr (p0.getD y0.toNat (0:Int))) (Sum.inl (IntKind.i64.wrap (y0 + 1)))) (Sum.inr (0:Int)))
abbrev sp_Z9_0 (p0:gF) (y0:Int):List Prop := [(((decide (y0 < (p0.length:Int)))=true)→((0:Int)≤y0)),(((decide (y0 < (p0.length:Int)))=true)→(y0 < (p0.length:Int)))]
def s_Z9 (p0:gF):Int := (lpv (0:Int) (st_Z9_0 p0) (0:Int))
abbrev pre_Z9 (p0:gF):List Prop := [(OkL (st_Z9_0 p0) (sp_Z9_0 p0) (0:Int))]
theorem d_Z9 (p0:gF) (K:Int→Prop) (hp:∀ p∈pre_Z9 p0,p) (h:K (s_Z9 p0)):w_Z9 p0 K := by
 unfold w_Z9
 unfold s_Z9 at h
 obtain ⟨hp0,_⟩ := conj_of hp
 exact (loop_gen (hp0) h (fun y0 k0 hp h => by
 unfold st_Z9_0 at h; obtain ⟨hp0,hp1,_⟩ := conj_of hp
 exact (br' h (fun e1 h => ⟨(hp0 e1),(hp1 e1),(br' h (fun e2 h => h)
  (fun e2 h => h))⟩)
  (fun e1 h => h))))
theorem l_Z9_0 (p0:gF) (hl:lenOk p0):OkL (st_Z9_0 p0) (sp_Z9_0 p0) 0∧lpv (0:Int) (st_Z9_0 p0) 0 = v_scan (fun _ x => cond (x != 0) (some x) none) (0:Int) 0 p0 := by
 refine scan_is p0 0 (fun _ x => cond (x != 0) (some x) none) (0:Int) hl ?_ ?_
 ·refine ⟨by simp only [sp_Z9_0,fM,decide_eq_true_eq]; simp,by simp [st_Z9_0]⟩
 ·intro j hj
  have hj' : (j:Int) < p0.length := by omega
  refine ⟨by simp only [sp_Z9_0,fM,decide_eq_true_eq,Int.toNat_natCast]; simp <;> omega,?_⟩
  simp only [st_Z9_0,hj',decide_true,Int.toNat_natCast,cond_true,wrap_nat (show (j:Int)≤9223372036854775806 by unfold lenOk at hl; omega)]
  generalize p0.getD j 0 = x
  cases (x != 0) <;> rfl
abbrev t_Z9 (p0:gF):Int := v_first p0
abbrev qre_Z9 (p0:gF):List Prop := [lenOk p0]
theorem pp_Z9 (p0:gF) (hq:∀ p∈qre_Z9 p0,p):∀ p∈pre_Z9 p0,p := by
 simp only [pre_Z9,fM]
 exact ⟨(l_Z9_0 p0 (conj_of hq).1).1,by simp⟩
theorem tt_Z9 (p0:gF) (hq:∀ p∈qre_Z9 p0,p):s_Z9 p0 = t_Z9 p0 := by
 exact (l_Z9_0 p0 (conj_of hq).1).2.trans (v_first_scan p0 0)

abbrev con_Z9:Con := ⟨P_Z9,R_Z9,fun x => qre_Z9 x,fun x => t_Z9 x⟩
theorem ok_Z9:ConOk Try.prog 71 con_Z9 := okG k_Z9 e_Z9 hC_Z9 fun x hx => tf_of (w_Z9_eq x _) (d_Z9 x _ (pp_Z9 x hx) (tt_Z9 x hx))
def C_Z7:Cons := []
theorem hC_Z7:ConsOk Try.prog C_Z7 := ConsOk.nil
def w_Z7 (p0:Bool) (p1:Int) (K:Int→Prop):Prop := (((p0 = true) →(K zz0)) ∧((p0 = false) →(K p1)))
theorem w_Z7_eq (p0:Bool) (p1:Int) (K:Int→Prop):tfn F_Z7 A_Z7 C_Z7 P_Z7 R_Z7 (p0,p1) K = w_Z7 p0 p1 K := by kernel_rfl
def s_Z7 (p0:Bool) (p1:Int):Int := (cond p0 (0:Int) p1)
abbrev pre_Z7 (_p0:Bool) (_p1:Int):List Prop := []
theorem d_Z7 (p0:Bool) (p1:Int) (K:Int→Prop) (_hp:∀ p∈pre_Z7 p0 p1,p) (h:K (s_Z7 p0 p1)):w_Z7 p0 p1 K := by
 unfold w_Z7
 unfold s_Z7 at h
 exact (br' h (fun e0 h => h)
  (fun e0 h => h))
abbrev con_Z7:Con := ⟨P_Z7,R_Z7,fun x => pre_Z7 x.1 x.2,fun x => s_Z7 x.1 x.2⟩
theorem ok_Z7:ConOk Try.prog 66 con_Z7 := okG k_Z7 e_Z7 hC_Z7 fun x hx => tf_of (w_Z7_eq x.1 x.2 _) (d_Z7 x.1 x.2 _ hx rfl)
theorem tx_unless {a:Bool} {x:Int}:s_Z7 a x = cond a 0 x := by cases a <;> rfl
def C_Zt:Cons := [(86,[],con_Z6)]
theorem hC_Zt:ConsOk Try.prog C_Zt := cC ok_Z6 <| ConsOk.nil
def w_Zt (p0:Int) (K:Bool→Prop):Prop := (K (s_Z6 p0 zz0 (1000000000000:Int)))
theorem w_Zt_eq (p0:Int) (K:Bool→Prop):tfn F_Zt A_Zt C_Zt P_Zt R_Zt p0 K = w_Zt p0 K := by kernel_rfl
def s_Zt (p0:Int):Bool := (s_Z6 p0 (0:Int) (1000000000000:Int))
abbrev pre_Zt (_p0:Int):List Prop := []
theorem d_Zt (p0:Int) (K:Bool→Prop) (_hp:∀ p∈pre_Zt p0,p) (h:K (s_Zt p0)):w_Zt p0 K := by
 unfold w_Zt
 unfold s_Zt at h
 exact h
abbrev con_Zt:Con := ⟨P_Zt,R_Zt,fun x => pre_Zt x,fun x => s_Zt x⟩
theorem ok_Zt:ConOk Try.prog 84 con_Zt := okG k_Zt e_Zt hC_Zt fun x hx => tf_of (w_Zt_eq x _) (d_Zt x _ hx rfl)
def C_Zp:Cons := [(86,[],con_Z6)]
theorem hC_Zp:ConsOk Try.prog C_Zp := cC ok_Z6 <| ConsOk.nil
def w_Zp (p0:Int) (p1:Int) (K:Bool→Prop):Prop := (K (s_Z6 p0 (IntKind.i64.wrap (zz0 - p1)) p1))
theorem w_Zp_eq (p0:Int) (p1:Int) (K:Bool→Prop):tfn F_Zp A_Zp C_Zp P_Zp R_Zp (p0,p1) K = w_Zp p0 p1 K := by kernel_rfl
def s_Zp (p0:Int) (p1:Int):Bool := (s_Z6 p0 (IntKind.i64.wrap ((0:Int) - p1)) p1)
abbrev pre_Zp (_p0:Int) (_p1:Int):List Prop := []
theorem d_Zp (p0:Int) (p1:Int) (K:Bool→Prop) (_hp:∀ p∈pre_Zp p0 p1,p) (h:K (s_Zp p0 p1)):w_Zp p0 p1 K := by
 unfold w_Zp
 unfold s_Zp at h
 exact h
abbrev con_Zp:Con := ⟨P_Zp,R_Zp,fun x => pre_Zp x.1 x.2,fun x => s_Zp x.1 x.2⟩
theorem ok_Zp:ConOk Try.prog 83 con_Zp := okG k_Zp e_Zp hC_Zp fun x hx => tf_of (w_Zp_eq x.1 x.2 _) (d_Zp x.1 x.2 _ hx rfl)
def C_Zu:Cons := [(83,[],con_Zp)]
theorem hC_Zu:ConsOk Try.prog C_Zu := cC ok_Zp <| ConsOk.nil
def w_Zu (p0:Int) (K:Bool→Prop):Prop := (K (s_Z6 p0 (-10:Int) (10:Int)))
theorem w_Zu_eq (p0:Int) (K:Bool→Prop):tfn F_Zu A_Zu C_Zu P_Zu R_Zu p0 K = w_Zu p0 K := by kernel_rfl
def s_Zu (p0:Int):Bool := (s_Z6 p0 (-10:Int) (10:Int))
abbrev pre_Zu (_p0:Int):List Prop := []
theorem d_Zu (p0:Int) (K:Bool→Prop) (_hp:∀ p∈pre_Zu p0,p) (h:K (s_Zu p0)):w_Zu p0 K := by
 unfold w_Zu
 unfold s_Zu at h
 exact h
abbrev con_Zu:Con := ⟨P_Zu,R_Zu,fun x => pre_Zu x,fun x => s_Zu x⟩
theorem ok_Zu:ConOk Try.prog 82 con_Zu := okG k_Zu e_Zu hC_Zu fun x hx => tf_of (w_Zu_eq x _) (d_Zu x _ hx rfl)
def C_Zv:Cons := [(83,[],con_Zp)]
theorem hC_Zv:ConsOk Try.prog C_Zv := cC ok_Zp <| ConsOk.nil
def w_Zv (p0:Int) (K:Bool→Prop):Prop := (K (s_Z6 p0 (-100000:Int) (100000:Int)))
theorem w_Zv_eq (p0:Int) (K:Bool→Prop):tfn F_Zv A_Zv C_Zv P_Zv R_Zv p0 K = w_Zv p0 K := by kernel_rfl
def s_Zv (p0:Int):Bool := (s_Z6 p0 (-100000:Int) (100000:Int))
abbrev pre_Zv (_p0:Int):List Prop := []
theorem d_Zv (p0:Int) (K:Bool→Prop) (_hp:∀ p∈pre_Zv p0,p) (h:K (s_Zv p0)):w_Zv p0 K := by
 unfold w_Zv
 unfold s_Zv at h
 exact h
abbrev con_Zv:Con := ⟨P_Zv,R_Zv,fun x => pre_Zv x,fun x => s_Zv x⟩
theorem ok_Zv:ConOk Try.prog 85 con_Zv := okG k_Zv e_Zv hC_Zv fun x hx => tf_of (w_Zv_eq x _) (d_Zv x _ hx rfl)
def C_Z2:Cons := [(66,[],con_Z7),(71,[],con_Z9),(84,[],con_Zt),(82,[],con_Zu),(85,[],con_Zv)]
theorem hC_Z2:ConsOk Try.prog C_Z2 := cC ok_Z7 <| cC ok_Z9 <| cC ok_Zt <| cC ok_Zu <| cC ok_Zv <| ConsOk.nil
abbrev q1_Z2 (p0:(List (Int×(Int×(Int×(Int×Int)))))) (y1:gG) := (p0.getD y1.1.toNat (zz0,(zz0,(zz0,(zz0,zz0)))))
abbrev q6_Z2 (p0:(List (Int×(Int×(Int×(Int×Int)))))) (y1:gG) := (s_Z6 (q1_Z2 p0 y1).1 zz0 (1000000000000:Int))
abbrev q2_Z2 (p0:(List (Int×(Int×(Int×(Int×Int)))))) (y1:gG) := (cond (q6_Z2 p0 y1) (s_Z6 (q1_Z2 p0 y1).2.1 (-10:Int) (10:Int)) false)
abbrev q0_Z2 (p0:(List (Int×(Int×(Int×(Int×Int)))))) (y1:gG) := (cond (q2_Z2 p0 y1) (s_Z6 (q1_Z2 p0 y1).2.2.1 (-10:Int) (10:Int)) false)
abbrev q4_Z2 (p0:(List (Int×(Int×(Int×(Int×Int)))))) (y1:gG) := (cond (q0_Z2 p0 y1) (s_Z6 (q1_Z2 p0 y1).2.2.2.1 (-10:Int) (10:Int)) false)
abbrev q3_Z2 (p0:(List (Int×(Int×(Int×(Int×Int)))))) (y1:gG) := ((s_Z7 (cond (q4_Z2 p0 y1) (s_Z6 (q1_Z2 p0 y1).2.2.2.2 (-100000:Int) (100000:Int)) false) zz2) :: ((s_Z7 (decide ((q1_Z2 p0 y1).1 > y1.2)) (9:Int)) :: ([]:List Int)))
abbrev q5_Z2 (p0:(List (Int×(Int×(Int×(Int×Int)))))) := ((s_Z7 (decide ((p0.length:Int) > zz0)) (10:Int)) :: ((s_Z7 (decide ((p0.length:Int)≤20)) (8:Int)) :: ([]:List Int)))
def w_Z2 (p0:(List (Int×(Int×(Int×(Int×Int)))))) (K:(Int×Int)→Prop):Prop := ((lenOk (q5_Z2 p0)) ∧(((((v_first (q5_Z2 p0)) != zz0)=true) →(K (zz0,(v_first (q5_Z2 p0))))) ∧((((v_first (q5_Z2 p0)) != zz0)=false) →(∃ n0,(loopP (fun (y1:gG) k2 => ((((decide (y1.1 < (p0.length:Int)))=true) →((zz0≤y1.1) ∧((y1.1 < (p0.length:Int)) ∧((((q6_Z2 p0 y1)=true) →((q6_Z2 p0 y1)=(q6_Z2 p0 y1))) ∧((((q6_Z2 p0 y1)=true) →((q6_Z2 p0 y1)=(q6_Z2 p0 y1))) ∧((((q6_Z2 p0 y1)=true) →((q6_Z2 p0 y1)=(q6_Z2 p0 y1))) ∧(((q6_Z2 p0 y1)=(q6_Z2 p0 y1)) ∧((((q2_Z2 p0 y1)=true) →((q2_Z2 p0 y1)=(q2_Z2 p0 y1))) ∧((((q2_Z2 p0 y1)=true) →((q2_Z2 p0 y1)=(q2_Z2 p0 y1))) ∧((((q2_Z2 p0 y1)=true) →((q2_Z2 p0 y1)=(q2_Z2 p0 y1))) ∧(((q2_Z2 p0 y1)=(q2_Z2 p0 y1)) ∧((((q0_Z2 p0 y1)=true) →((q0_Z2 p0 y1)=(q0_Z2 p0 y1))) ∧((((q0_Z2 p0 y1)=true) →((q0_Z2 p0 y1)=(q0_Z2 p0 y1))) ∧((((q0_Z2 p0 y1)=true) →((q0_Z2 p0 y1)=(q0_Z2 p0 y1))) ∧(((q0_Z2 p0 y1)=(q0_Z2 p0 y1)) ∧((((q4_Z2 p0 y1)=true) →((q4_Z2 p0 y1)=(q4_Z2 p0 y1))) ∧((((q4_Z2 p0 y1)=true) →((q4_Z2 p0 y1)=(q4_Z2 p0 y1))) ∧(((q4_Z2 p0 y1)=(q4_Z2 p0 y1)) ∧((lenOk (q3_Z2 p0 y1)) ∧(((((v_first (q3_Z2 p0 y1)) != zz0)=true) →(K (y1.1,(v_first (q3_Z2 p0 y1))))) ∧((((v_first (q3_Z2 p0 y1)) != zz0)=false) →(k2 ((wi (y1.1 + zz1)),(q1_Z2 p0 y1).1))))))))))))))))))))))) ∧(((decide (y1.1 < (p0.length:Int)))=false) →(K (zz0,zz0))))) n0 (zz0,(-1:Int)))))))
theorem w_Z2_eq (p0:(List (Int×(Int×(Int×(Int×Int)))))) (K:(Int×Int)→Prop):tfn F_Z2 A_Z2 C_Z2 P_Z2 R_Z2 p0 K = w_Z2 p0 K := by kernel_rfl
def st_Z2_0 (p0:(List (Int×(Int×(Int×(Int×Int)))))) (y1:gG):(Int×Int) ⊕ (Int×Int) := (cond (decide (y1.1 < (p0.length:Int))) (cond ((v_first ((s_Z7 (cond (cond (cond (cond (s_Z6 (p0.getD y1.1.toNat ((0:Int),((0:Int),((0:Int),(0,0))))).1 (0:Int) (1000000000000:Int)) (s_Z6 (p0.getD y1.1.toNat ((0:Int),((0:Int),((0:Int),(0,0))))).2.1 (-10:Int) (10:Int)) false) (s_Z6 (p0.getD y1.1.toNat ((0:Int),((0:Int),((0:Int),(0,0))))).2.2.1 (-10:Int) (10:Int)) false) (s_Z6 (p0.getD y1.1.toNat ((0:Int),((0:Int),((0:Int),(0,0))))).2.2.2.1 (-10:Int) (10:Int)) false) (s_Z6 (p0.getD y1.1.toNat ((0:Int),((0:Int),((0:Int),(0,0))))).2.2.2.2 (-100000:Int) (100000:Int)) false) (2:Int)) :: ((s_Z7 (decide ((p0.getD y1.1.toNat ((0:Int),((0:Int),((0:Int),(0,0))))).1 > y1.2)) (9:Int)) :: ([]:List Int)))) != 0) (Sum.inr (y1.1,(v_first ((s_Z7 (cond (cond (cond (cond (s_Z6 (p0.getD y1.1.toNat ((0:Int),((0:Int),((0:Int),(0,0))))).1 (0:Int) (1000000000000:Int)) (s_Z6 (p0.getD y1.1.toNat ((0:Int),((0:Int),((0:Int),(0,0))))).2.1 (-10:Int) (10:Int)) false) (s_Z6 (p0.getD y1.1.toNat ((0:Int),((0:Int),((0:Int),(0,0))))).2.2.1 (-10:Int) (10:Int)) false) (s_Z6 (p0.getD y1.1.toNat ((0:Int),((0:Int),((0:Int),(0,0))))).2.2.2.1 (-10:Int) (10:Int)) false) (s_Z6 (p0.getD y1.1.toNat ((0:Int),((0:Int),((0:Int),(0,0))))).2.2.2.2 (-100000:Int) (100000:Int)) false) (2:Int)) :: ((s_Z7 (decide ((p0.getD y1.1.toNat ((0:Int),((0:Int),((0:Int),(0,0))))).1 > y1.2)) (9:Int)) :: ([]:List Int)))))) (Sum.inl ((IntKind.i64.wrap (y1.1 + 1)),(p0.getD y1.1.toNat ((0:Int),((0:Int),((0:Int),(0,0))))).1))) (Sum.inr (0,0)))
abbrev sp_Z2_0 (p0:(List (Int×(Int×(Int×(Int×Int)))))) (y1:gG):List Prop := [(((decide (y1.1 < (p0.length:Int)))=true)→((0:Int)≤y1.1)),(((decide (y1.1 < (p0.length:Int)))=true)→(y1.1 < (p0.length:Int)))]
def s_Z2 (p0:(List (Int×(Int×(Int×(Int×Int)))))):(Int×Int) := (cond ((v_first ((s_Z7 (decide ((p0.length:Int) > 0)) (10:Int)) :: ((s_Z7 (decide ((p0.length:Int)≤20)) (8:Int)) :: ([]:List Int)))) != 0) ((0:Int),(v_first ((s_Z7 (decide ((p0.length:Int) > 0)) (10:Int)) :: ((s_Z7 (decide ((p0.length:Int)≤20)) (8:Int)) :: ([]:List Int))))) (lpv (0,0) (st_Z2_0 p0) ((0:Int),(-1:Int))))
abbrev pre_Z2 (p0:(List (Int×(Int×(Int×(Int×Int)))))):List Prop := [((((v_first ((s_Z7 (decide ((p0.length:Int) > 0)) (10:Int)) :: ((s_Z7 (decide ((p0.length:Int)≤20)) (8:Int)) :: ([]:List Int)))) != 0)=false)→(OkL (st_Z2_0 p0) (sp_Z2_0 p0) ((0:Int),(-1:Int))))]
theorem d_Z2 (p0:(List (Int×(Int×(Int×(Int×Int)))))) (K:(Int×Int)→Prop) (hp:∀ p∈pre_Z2 p0,p) (h:K (s_Z2 p0)):w_Z2 p0 K := by
 unfold w_Z2
 unfold s_Z2 at h
 obtain ⟨hp0,_⟩ := conj_of hp
 exact ⟨(lenOk_of 2 rfl (by decide)),(br' h (fun e0 h => h)
  (fun e0 h => (loop_gen (hp0 e0) h (fun y1 k1 hp h => by
 unfold st_Z2_0 at h; obtain ⟨hp0,hp1,_⟩ := conj_of hp
 exact (br' h (fun e2 h => ⟨(hp0 e2),(hp1 e2),rf,rf,rf,rfl,rf,rf,rf,rfl,rf,rf,rf,rfl,rf,rf,rfl,(lenOk_of 2 rfl (by decide)),(br' h (fun e3 h => h)
  (fun e3 h => h))⟩)
  (fun e2 h => h))))))⟩
theorem tx_first2 {x y:Int}:v_first [x,y]=cond (x != 0) x y := by
 simp only [v_first]
 cases h:(x != 0)
 ·cases h2:(y != 0)
  ·simp at h2; subst h2; rfl
  ·rfl
 ·rfl
theorem tx_csh {n:Int} (h:0≤n):v_first [s_Z7 (decide (n > 0)) 10,s_Z7 (decide (n≤20)) 8]=cond (n == 0) 10 (cond (decide (n > 20)) 8 0) := by
 unfold s_Z7
 rcases int0 n with ⟨h0,_,e0⟩ | ⟨h0,_,e0⟩
 ·subst h0; rfl
 ·rw [e0,decide_eq_true (show n > 0 by omega)]
  rcases dec0 (a := 20) (b := n) with ⟨_,_,_,e1,e2⟩ | ⟨_,_,_,e1,e2⟩ <;> rw [e1,e2] <;> rfl
theorem tx_len {p0:List (Int×Int×Int×Int×Int)} (h:(v_first [s_Z7 (decide ((p0.length:Int) > 0)) 10,s_Z7 (decide ((p0.length:Int)≤20)) 8] != 0)=false):p0.length≤20 := by
 rw [tx_csh (by omega)] at h
 cases c:decide ((p0.length:Int) > 20)
 ·have := of_decide_eq_false c; omega
 ·rw [c] at h
  cases c2:((p0.length:Int) == 0) <;> rw [c2] at h <;> cases h
theorem v_svalm {x:Int×Int×Int×Int×Int}:cond (cond (cond (cond (s_Z6 x.1 0 1000000000000) (s_Z6 x.2.1 (-10) 10) false) (s_Z6 x.2.2.1 (-10) 10) false) (s_Z6 x.2.2.2.1 (-10) 10) false) (s_Z6 x.2.2.2.2 (-100000) 100000) false = v_sval x := by
 rw [tx_withinG,tx_withinG,tx_withinG,tx_withinG,tx_withinG]
 unfold v_sval
 cases s_Z4 x.1 0 1000000000000 <;> cases s_Z4 x.2.1 (-10) 10 <;> cases s_Z4 x.2.2.1 (-10) 10 <;> cases s_Z4 x.2.2.2.1 (-10) 10 <;> rfl
theorem v_sval_t {x:Int×Int×Int×Int×Int} (h:v_sval x = true):0≤x.1 := by
 unfold v_sval at h
 cases c:s_Z4 x.1 0 1000000000000
 ·rw [c] at h; cases h
 ·exact (tx_within.1 c).1
theorem l_Z2_0 (p0:List (Int×Int×Int×Int×Int)) (hl:p0.length≤20):OkL (st_Z2_0 p0) (sp_Z2_0 p0) (0,-1)∧lpv ((0,0):Int×Int) (st_Z2_0 p0) (0,-1)=v_scan (v_cs1 p0) ((0,0):Int×Int) 0 p0 := by
 refine @for_is Int (Int×Int) (Int×Int) (0,0) (st_Z2_0 p0) (sp_Z2_0 p0) (fun i t => (i,t)) 0 p0.length (fun j t => t = if j = 0 then -1 else (p0.getD (j - 1) (0,0,0,0,0)).1) (fun j _ => v_scan (v_cs1 p0) ((0,0):Int×Int) (j:Int) (p0.drop j)) (by omega) (by omega) ?_ ?_ (-1) rfl
 ·intro t _
  rw [List.drop_length]
  simp only [sp_Z2_0,st_Z2_0,fM,show decide ((p0.length:Int) < (p0.length:Int))=false from decide_eq_false (by omega),cond_false]
  refine ⟨?_,rfl⟩
  and_intros
  all_goals first
   | (intro h; cases h; done)
   | (intro p hp; cases hp)
 ·intro j t _ hj ht
  have hd1:decide ((j:Int) < (p0.length:Int))=true := decide_eq_true (by omega)
  have hw1:IntKind.i64.wrap ((j:Int) + 1)=((j + 1:Nat):Int) := wrap_id (by omega) (by omega)
  rw [drop_getD (0,0,0,0,0) hj]
  have e:v_scan (v_cs1 p0) ((0,0):Int×Int) (j:Int) (p0.getD j (0,0,0,0,0) :: p0.drop (j + 1))=match v_cs1 p0 (j:Int) (p0.getD j (0,0,0,0,0)) with | none => v_scan (v_cs1 p0) ((0,0):Int×Int) ((j:Int) + 1) (p0.drop (j + 1)) | some v => v := by simp only [v_scan]; cases v_cs1 p0 (j:Int) (p0.getD j (0,0,0,0,0)) <;> rfl
  rw [e,show (j:Int) + 1 = ((j + 1:Nat):Int) by omega]
  simp only [sp_Z2_0,st_Z2_0,fM,hd1,cond_true,hw1,Int.toNat_natCast,v_svalm]
  refine ⟨?_,?_⟩
  ·and_intros
   all_goals first
    | (intro p hp; cases hp; done)
    | (intros; omega)
  ·unfold v_cs1
   cases hv:v_sval (p0.getD j (0,0,0,0,0))
   ·exact .inr rfl
   ·have h0 := v_sval_t hv
    rcases Nat.eq_zero_or_pos j with rfl | hp
    ·rw [if_pos rfl] at ht
     rw [ht,decide_eq_true (show (p0.getD 0 (0,0,0,0,0)).1 > -1 by omega)]
     exact .inl ⟨_,rfl,by simp,rfl⟩
    ·rw [if_neg (by omega)] at ht
     rw [show ((j:Int) == 0)=false from beq_eq_false_iff_ne.2 (by omega),show ((j:Int) - 1).toNat = j - 1 by omega,ht]
     cases decide ((p0.getD j (0,0,0,0,0)).1 > (p0.getD (j - 1) (0,0,0,0,0)).1)
     ·exact .inr rfl
     ·exact .inl ⟨_,rfl,by simp,rfl⟩
abbrev t_Z2 (p0:List (Int×Int×Int×Int×Int)):Int×Int := v_cs p0
abbrev qre_Z2 (_p0:List (Int×Int×Int×Int×Int)):List Prop := []
theorem pp_Z2 (p0:List (Int×Int×Int×Int×Int)) (_hq:∀ p∈qre_Z2 p0,p):∀ p∈pre_Z2 p0,p := by
 simp only [pre_Z2,fM]
 refine ⟨fun h => ?_,by simp⟩
 exact (l_Z2_0 p0 (tx_len h)).1
theorem tt_Z2 (p0:List (Int×Int×Int×Int×Int)) (_hq:∀ p∈qre_Z2 p0,p):s_Z2 p0 = t_Z2 p0 := by
 unfold s_Z2 t_Z2 v_cs
 rw [tx_csh (by omega)]
 cases h:decide ((p0.length:Int) > 20)
 ·rw [(l_Z2_0 p0 (by have := of_decide_eq_false h; omega)).2]
  cases ((p0.length:Int) == 0) <;> rfl
 ·cases ((p0.length:Int) == 0) <;> rfl

abbrev con_Z2:Con := ⟨P_Z2,R_Z2,fun x => qre_Z2 x,fun x => t_Z2 x⟩
theorem ok_Z2:ConOk Try.prog 32 con_Z2 := okG k_Z2 e_Z2 hC_Z2 fun x hx => tf_of (w_Z2_eq x _) (d_Z2 x _ (pp_Z2 x hx) (tt_Z2 x hx))
def C_Zi:Cons := []
theorem hC_Zi:ConsOk Try.prog C_Zi := ConsOk.nil
abbrev q0_Zi (p0:(List (Int×(Int×(Int×(Int×Int)))))) (p1:Int) := (p0.getD p1.toNat (zz0,(zz0,(zz0,(zz0,zz0)))))
def w_Zi (p0:(List (Int×(Int×(Int×(Int×Int)))))) (p1:Int) (K:(Int×(Int×(Int×(Int×(Int×(Int×(Int×Int)))))))→Prop):Prop := ((zz0≤p1) ∧((p1 < (p0.length:Int)) ∧((zz0≤(max zz0 (wi (p1 - zz1)))) ∧(((max zz0 (wi (p1 - zz1))) < (p0.length:Int)) ∧(K (zz1,((q0_Zi p0 p1).2.1,((q0_Zi p0 p1).2.2.1,((q0_Zi p0 p1).2.2.2.1,((wi ((q0_Zi p0 p1).2.1 * (q0_Zi p0 p1).2.1)),((wi ((q0_Zi p0 p1).2.1 * (q0_Zi p0 p1).2.2.1)),((wi ((q0_Zi p0 p1).2.1 - (p0.getD (Int.toNat (max zz0 (wi (p1 - zz1)))) (zz0,(zz0,(zz0,(zz0,zz0))))).2.1)),(wi ((q0_Zi p0 p1).2.2.1 - (p0.getD (Int.toNat (max zz0 (wi (p1 - zz1)))) (zz0,(zz0,(zz0,(zz0,zz0))))).2.2.1))))))))))))))
theorem w_Zi_eq (p0:(List (Int×(Int×(Int×(Int×Int)))))) (p1:Int) (K:(Int×(Int×(Int×(Int×(Int×(Int×(Int×Int)))))))→Prop):tfn F_Zi A_Zi C_Zi P_Zi R_Zi (p0,p1) K = w_Zi p0 p1 K := by kernel_rfl
def s_Zi (p0:(List (Int×(Int×(Int×(Int×Int)))))) (p1:Int):(Int×(Int×(Int×(Int×(Int×(Int×(Int×Int))))))) := ((1:Int),((p0.getD p1.toNat ((0:Int),((0:Int),((0:Int),(0,0))))).2.1,((p0.getD p1.toNat ((0:Int),((0:Int),((0:Int),(0,0))))).2.2.1,((p0.getD p1.toNat ((0:Int),((0:Int),((0:Int),(0,0))))).2.2.2.1,((IntKind.i64.wrap ((p0.getD p1.toNat ((0:Int),((0:Int),((0:Int),(0,0))))).2.1 * (p0.getD p1.toNat ((0:Int),((0:Int),((0:Int),(0,0))))).2.1)),((IntKind.i64.wrap ((p0.getD p1.toNat ((0:Int),((0:Int),((0:Int),(0,0))))).2.1 * (p0.getD p1.toNat ((0:Int),((0:Int),((0:Int),(0,0))))).2.2.1)),((IntKind.i64.wrap ((p0.getD p1.toNat ((0:Int),((0:Int),((0:Int),(0,0))))).2.1 - (p0.getD (Int.toNat (max (0:Int) (IntKind.i64.wrap (p1 - 1)))) ((0:Int),((0:Int),((0:Int),(0,0))))).2.1)),(IntKind.i64.wrap ((p0.getD p1.toNat ((0:Int),((0:Int),((0:Int),(0,0))))).2.2.1 - (p0.getD (Int.toNat (max (0:Int) (IntKind.i64.wrap (p1 - 1)))) ((0:Int),((0:Int),((0:Int),(0,0))))).2.2.1)))))))))
abbrev pre_Zi (p0:(List (Int×(Int×(Int×(Int×Int)))))) (p1:Int):List Prop := [((0:Int)≤p1),(p1 < (p0.length:Int)),((0:Int)≤(max (0:Int) (IntKind.i64.wrap (p1 - 1)))),((max (0:Int) (IntKind.i64.wrap (p1 - 1))) < (p0.length:Int))]
theorem d_Zi (p0:(List (Int×(Int×(Int×(Int×Int)))))) (p1:Int) (K:(Int×(Int×(Int×(Int×(Int×(Int×(Int×Int)))))))→Prop) (hp:∀ p∈pre_Zi p0 p1,p) (h:K (s_Zi p0 p1)):w_Zi p0 p1 K := by
 unfold w_Zi
 unfold s_Zi at h
 obtain ⟨hp0,hp1,hp2,hp3,_⟩ := conj_of hp
 exact ⟨(hp0),(hp1),(hp2),(hp3),h⟩
/-- Valid samples. -/
structure v_sok1 (q:Int×Int×Int×Int×Int):Prop where
 t:0≤q.1∧q.1≤1000000000000
 x : -10≤q.2.1∧q.2.1≤10
 y : -10≤q.2.2.1∧q.2.2.1≤10
 z : -10≤q.2.2.2.1∧q.2.2.2.1≤10
 v : -100000≤q.2.2.2.2∧q.2.2.2.2≤100000
structure v_smp (l:List (Int×Int×Int×Int×Int)):Prop where
 ne:l ≠ []
 len:l.length≤20
 ok:∀ x∈l,v_sok1 x
 asc:∀ k,0 < k→k < l.length→(l.getD (k - 1) (0,0,0,0,0)).1 < (l.getD k (0,0,0,0,0)).1
theorem v_sval_iff {x:Int×Int×Int×Int×Int}:v_sval x = true ↔ v_sok1 x := by
 unfold v_sval
 constructor
 ·intro h
  cases c1:s_Z4 x.1 0 1000000000000 <;> cases c2:s_Z4 x.2.1 (-10) 10 <;> cases c3:s_Z4 x.2.2.1 (-10) 10 <;> cases c4:s_Z4 x.2.2.2.1 (-10) 10 <;> cases c5:s_Z4 x.2.2.2.2 (-100000) 100000 <;> rw [c1,c2,c3,c4,c5] at h <;> try (cases h; done)
  exact ⟨tx_within.1 c1,tx_within.1 c2,tx_within.1 c3,tx_within.1 c4,tx_within.1 c5⟩
 ·rintro ⟨h1,h2,h3,h4,h5⟩
  rw [tx_within.2 h1,tx_within.2 h2,tx_within.2 h3,tx_within.2 h4,tx_within.2 h5]; rfl
theorem v_cs1_none {l:List (Int×Int×Int×Int×Int)} {k:Nat} {x:Int×Int×Int×Int×Int}:v_cs1 l (k:Int) x = none ↔ v_sok1 x∧(0 < k→(l.getD (k - 1) (0,0,0,0,0)).1 < x.1) := by
 unfold v_cs1
 have hk:((k:Int) - 1).toNat = k - 1 := by omega
 rw [hk]
 cases hv:v_sval x
 ·simp only [cond_false,reduceCtorEq,false_iff]
  rintro ⟨h,_⟩
  rw [v_sval_iff.2 h] at hv; cases hv
 ·have hs := v_sval_iff.1 hv
  rcases int0 (k:Int) with ⟨h0,_,e⟩ | ⟨h0,_,e⟩ <;> rw [e]
  ·simp only [cond_true,true_iff]
   exact ⟨hs,fun h => by omega⟩
  ·simp only [cond_true,cond_false]
   cases c:decide (x.1 > (l.getD (k - 1) (0,0,0,0,0)).1)
   ·have := of_decide_eq_false c
    simp only [cond_false,reduceCtorEq,false_iff]
    rintro ⟨_,h⟩
    have := h (by omega)
    omega
   ·have := of_decide_eq_true c
    simp only [cond_true,true_iff]
    exact ⟨hs,fun _ => this⟩
theorem v_cs_iff {l:List (Int×Int×Int×Int×Int)}:(v_cs l).2 = 0 ↔ v_smp l := by
 constructor
 ·intro h
  unfold v_cs at h
  rcases int0 (l.length:Int) with ⟨_,_,e0⟩ | ⟨h0,_,e0⟩
  ·rw [e0] at h; cases h
  rw [e0] at h
  rcases dec0 (a := 20) (b := (l.length:Int)) with ⟨_,_,_,_,e1⟩ | ⟨h1,_,_,_,e1⟩
  ·rw [e1] at h; cases h
  rw [e1] at h
  simp only [cond_false] at h
  have key := v_scan_end (f := v_cs1 l) (e := ((0,0):Int×Int)) (P := fun (r:gG) => r.2 = 0) l 0 h (fun j x v _ hv hv0 => by
   unfold v_cs1 at hv
   cases c1:v_sval x <;> rw [c1] at hv
   ·simp only [cond_false,sJ] at hv; subst hv; cases hv0
   ·cases c2:cond (j == 0) true (decide (x.1 > (l.getD (j - 1).toNat (0,0,0,0,0)).1)) <;> rw [c2] at hv
    ·simp only [cond_true,cond_false,sJ] at hv; subst hv; cases hv0
    ·cases hv)
  have key2:∀ k,(hk:k < l.length)→v_sok1 (l.getD k (0,0,0,0,0))∧(0 < k→(l.getD (k - 1) (0,0,0,0,0)).1 < (l.getD k (0,0,0,0,0)).1) := fun k hk => by
   have := key k hk
   rw [Int.zero_add] at this
   rw [gd_get (0,0,0,0,0) hk]
   exact v_cs1_none.1 this
  refine ⟨by rintro rfl; exact h0 rfl,by omega,fun x hx => ?_,fun k h0 hk => (key2 k hk).2 h0⟩
  obtain ⟨k,hk,rfl⟩ := List.getElem_of_mem hx
  rw [← gd_get (0,0,0,0,0) hk]
  exact (key2 k hk).1
 ·intro h
  have h0:0 < l.length := List.length_pos_iff.2 h.ne
  have hl := h.len
  unfold v_cs
  rw [show ((l.length:Int) == 0)=false from beq_eq_false_iff_ne.2 (by omega),decide_eq_false (show ¬ (l.length:Int) > 20 by omega)]
  simp only [cond_false]
  have key:∀ (r:List (Int×Int×Int×Int×Int)) (k:Nat),l.drop k = r→v_scan (v_cs1 l) ((0,0):Int×Int) (k:Int) r = (0,0) := by
   intro r
   induction r with
   | nil => intro k _; rfl
   | cons x r ih =>
    intro k e
    have hk:k < l.length := by
     rcases Nat.lt_or_ge k l.length with g | g
     ·exact g
     ·rw [List.drop_eq_nil_of_le g] at e; cases e
    rw [drop_getD (0,0,0,0,0) hk] at e
    simp only [List.cons.injEq] at e
    obtain ⟨e1,e2⟩ := e
    unfold v_scan
    rw [v_cs1_none.2 ⟨e1 ▸ h.ok _ (getD_mem' _ hk),fun h0 => e1 ▸ h.asc k h0 hk⟩]
    have := ih (k + 1) e2
    rw [Int.natCast_add] at this
    exact this
  rw [show v_scan (v_cs1 l) ((0,0):Int×Int) 0 l = (0,0) from key l 0 rfl]
/-- The terms of a sample. -/
def v_tms (l:List (Int×Int×Int×Int×Int)) (i:Nat):Int×Int×Int×Int×Int×Int×Int×Int := (1,(l.getD i (0,0,0,0,0)).2.1,(l.getD i (0,0,0,0,0)).2.2.1,(l.getD i (0,0,0,0,0)).2.2.2.1,(l.getD i (0,0,0,0,0)).2.1 * (l.getD i (0,0,0,0,0)).2.1,(l.getD i (0,0,0,0,0)).2.1 * (l.getD i (0,0,0,0,0)).2.2.1,
 (l.getD i (0,0,0,0,0)).2.1 - (l.getD (i - 1) (0,0,0,0,0)).2.1,(l.getD i (0,0,0,0,0)).2.2.1 - (l.getD (i - 1) (0,0,0,0,0)).2.2.1)
theorem v_m10 {x y:Int} (hx : -10≤x∧x≤10) (hy : -10≤y∧y≤10) : -100≤x * y∧x * y≤100 := by
 have h1 := mul_abs (x := x) (y := y) (a := 10) (b := 10) hx.1 hx.2 hy.1 hy.2
 omega
theorem v_tms_w {l:List (Int×Int×Int×Int×Int)} (h:v_smp l) {i:Nat} (hi:i < l.length):IntKind.i64.wrap ((l.getD i (0,0,0,0,0)).2.1 * (l.getD i (0,0,0,0,0)).2.1)=(l.getD i (0,0,0,0,0)).2.1 * (l.getD i (0,0,0,0,0)).2.1∧IntKind.i64.wrap ((l.getD i (0,0,0,0,0)).2.1 * (l.getD i (0,0,0,0,0)).2.2.1)=(l.getD i (0,0,0,0,0)).2.1 * (l.getD i (0,0,0,0,0)).2.2.1 ∧
  IntKind.i64.wrap ((l.getD i (0,0,0,0,0)).2.1 - (l.getD (i - 1) (0,0,0,0,0)).2.1)=(l.getD i (0,0,0,0,0)).2.1 - (l.getD (i - 1) (0,0,0,0,0)).2.1∧IntKind.i64.wrap ((l.getD i (0,0,0,0,0)).2.2.1 - (l.getD (i - 1) (0,0,0,0,0)).2.2.1)=(l.getD i (0,0,0,0,0)).2.2.1 - (l.getD (i - 1) (0,0,0,0,0)).2.2.1 := by
 have a := h.ok _ (getD_mem' (0,0,0,0,0) hi)
 have b := h.ok _ (getD_mem' (0,0,0,0,0) (show i - 1 < l.length by omega))
 have ax := a.x
 have ay := a.y
 have bx := b.x
 have bY := b.y
 have m1 := v_m10 ax ax
 have m2 := v_m10 ax ay
 exact ⟨wrap_id (by omega) (by omega),wrap_id (by omega) (by omega),wrap_id (by omega) (by omega),wrap_id (by omega) (by omega)⟩
abbrev t_Zi (p0:List (Int×Int×Int×Int×Int)) (p1:Int):Int×Int×Int×Int×Int×Int×Int×Int := v_tms p0 p1.toNat
abbrev qre_Zi (p0:List (Int×Int×Int×Int×Int)) (p1:Int):List Prop := [v_smp p0,0≤p1,p1 < p0.length]
theorem pp_Zi (p0:List (Int×Int×Int×Int×Int)) (p1:Int) (hq:∀ p∈qre_Zi p0 p1,p):∀ p∈pre_Zi p0 p1,p := by
 obtain ⟨h1,h2,h3,_⟩ := conj_of hq
 have hl := h1.len
 have hw:IntKind.i64.wrap (p1 - 1)=p1 - 1 := wrap_id (by omega) (by omega)
 simp only [pre_Zi,fM,hw]
 and_intros
 all_goals first | omega | (intro p hp; cases hp)
theorem tt_Zi (p0:List (Int×Int×Int×Int×Int)) (p1:Int) (hq:∀ p∈qre_Zi p0 p1,p):s_Zi p0 p1 = t_Zi p0 p1 := by
 obtain ⟨h1,h2,h3,_⟩ := conj_of hq
 have hl := h1.len
 have hw:IntKind.i64.wrap (p1 - 1)=p1 - 1 := wrap_id (by omega) (by omega)
 obtain ⟨w1,w2,w3,w4⟩ := v_tms_w h1 (show p1.toNat < p0.length by omega)
 unfold s_Zi t_Zi v_tms
 rw [hw,show (max 0 (p1 - 1)).toNat = p1.toNat - 1 by omega,w1,w2,w3,w4]

abbrev con_Zi:Con := ⟨P_Zi,R_Zi,fun x => qre_Zi x.1 x.2,fun x => t_Zi x.1 x.2⟩
theorem ok_Zi:ConOk Try.prog 87 con_Zi := okG k_Zi e_Zi hC_Zi fun x hx => tf_of (w_Zi_eq x.1 x.2 _) (d_Zi x.1 x.2 _ (pp_Zi x.1 x.2 hx) (tt_Zi x.1 x.2 hx))
def C_Zq:Cons := [(83,[],con_Zp)]
theorem hC_Zq:ConsOk Try.prog C_Zq := cC ok_Zp <| ConsOk.nil
def w_Zq (p0:Int) (K:Bool→Prop):Prop := (K (!(s_Z6 p0 (-1000000000:Int) (1000000000:Int))))
theorem w_Zq_eq (p0:Int) (K:Bool→Prop):tfn F_Zq A_Zq C_Zq P_Zq R_Zq p0 K = w_Zq p0 K := by kernel_rfl
def s_Zq (p0:Int):Bool := (!(s_Z6 p0 (-1000000000:Int) (1000000000:Int)))
abbrev pre_Zq (_p0:Int):List Prop := []
theorem d_Zq (p0:Int) (K:Bool→Prop) (_hp:∀ p∈pre_Zq p0,p) (h:K (s_Zq p0)):w_Zq p0 K := by
 unfold w_Zq
 unfold s_Zq at h
 exact h
abbrev con_Zq:Con := ⟨P_Zq,R_Zq,fun x => pre_Zq x,fun x => s_Zq x⟩
theorem ok_Zq:ConOk Try.prog 132 con_Zq := okG k_Zq e_Zq hC_Zq fun x hx => tf_of (w_Zq_eq x _) (d_Zq x _ hx rfl)
def C_Zg:Cons := [(132,[],con_Zq)]
theorem hC_Zg:ConsOk Try.prog C_Zg := cC ok_Zq <| ConsOk.nil
def w_Zg (p0:gF) (_p1:PUnit) (K:Int→Prop):Prop := (∃ n0,(loopP (fun (y1:Int) k2 => ((((decide (y1 < (p0.length:Int)))=true) →((zz0≤y1) ∧((y1 < (p0.length:Int)) ∧((((!(s_Z6 (p0.getD y1.toNat zz0) (-1000000000:Int) (1000000000:Int)))=true) →(K y1)) ∧(((!(s_Z6 (p0.getD y1.toNat zz0) (-1000000000:Int) (1000000000:Int)))=false) →(k2 (IntKind.i64.wrap (y1 + 1)))))))) ∧(((decide (y1 < (p0.length:Int)))=false) →(K (-1:Int))))) n0 zz0))
theorem w_Zg_eq (p0:gF) (p1:PUnit) (K:Int→Prop):tfn F_Zg A_Zg C_Zg P_Zg R_Zg (p0,p1) K = w_Zg p0 p1 K := by kernel_rfl
def st_Zg_0 (p0:gF) (_p1:PUnit) (y0:Int):Int ⊕ Int := (cond (decide (y0 < (p0.length:Int))) (cond (!(s_Z6 (p0.getD y0.toNat (0:Int)) (-1000000000:Int) (1000000000:Int))) (Sum.inr y0) (Sum.inl (IntKind.i64.wrap (y0 + 1)))) (Sum.inr (-1:Int)))
abbrev sp_Zg_0 (p0:gF) (_p1:PUnit) (y0:Int):List Prop := [(((decide (y0 < (p0.length:Int)))=true)→((0:Int)≤y0)),(((decide (y0 < (p0.length:Int)))=true)→(y0 < (p0.length:Int)))]
def s_Zg (p0:gF) (p1:PUnit):Int := (lpv (0:Int) (st_Zg_0 p0 p1) (0:Int))
abbrev pre_Zg (p0:gF) (p1:PUnit):List Prop := [(OkL (st_Zg_0 p0 p1) (sp_Zg_0 p0 p1) (0:Int))]
theorem d_Zg (p0:gF) (p1:PUnit) (K:Int→Prop) (hp:∀ p∈pre_Zg p0 p1,p) (h:K (s_Zg p0 p1)):w_Zg p0 p1 K := by
 unfold w_Zg
 unfold s_Zg at h
 obtain ⟨hp0,_⟩ := conj_of hp
 exact (loop_gen (hp0) h (fun y0 k0 hp h => by
 unfold st_Zg_0 at h; obtain ⟨hp0,hp1,_⟩ := conj_of hp
 exact (br' h (fun e1 h => ⟨(hp0 e1),(hp1 e1),(br' h (fun e2 h => h)
  (fun e2 h => h))⟩)
  (fun e1 h => h))))
/-- Whether a number can be a part of a fit. -/
def v_prt (x:Int):Bool := s_Z4 x (-1000000000) 1000000000
def v_fidx (l:gF):Int := v_scan (fun i x => cond (!(v_prt x)) (some i) none) (-1) 0 l
theorem l_Zg_0 (p0:gF) (p1:PUnit) (hl:lenOk p0):OkL (st_Zg_0 p0 p1) (sp_Zg_0 p0 p1) 0∧lpv (0:Int) (st_Zg_0 p0 p1) 0 = v_scan (fun i x => cond (!(v_prt x)) (some i) none) (-1) 0 p0 := by
 refine scan_is p0 0 (fun i x => cond (!(v_prt x)) (some i) none) (-1) hl ?_ ?_
 ·refine ⟨by simp only [sp_Zg_0,fM,decide_eq_true_eq]; simp,by simp [st_Zg_0]⟩
 ·intro j hj
  have hj' : (j:Int) < p0.length := by omega
  refine ⟨by simp only [sp_Zg_0,fM,decide_eq_true_eq,Int.toNat_natCast]; simp <;> omega,?_⟩
  simp only [st_Zg_0,hj',decide_true,Int.toNat_natCast,cond_true,wrap_nat (show (j:Int)≤9223372036854775806 by unfold lenOk at hl; omega)]
  have e:s_Z6 (p0.getD j 0) (-1000000000) 1000000000 = v_prt (p0.getD j 0) := rfl
  rw [e]
  cases v_prt (p0.getD j 0) <;> rfl
abbrev t_Zg (p0:gF) (_p1:PUnit):Int := v_fidx p0
abbrev qre_Zg (p0:gF) (_p1:PUnit):List Prop := [lenOk p0]
theorem pp_Zg (p0:gF) (p1:PUnit) (hq:∀ p∈qre_Zg p0 p1,p):∀ p∈pre_Zg p0 p1,p := by
 simp only [pre_Zg,fM]
 exact ⟨(l_Zg_0 p0 p1 (conj_of hq).1).1,by simp⟩
theorem tt_Zg (p0:gF) (p1:PUnit) (hq:∀ p∈qre_Zg p0 p1,p):s_Zg p0 p1 = t_Zg p0 p1 := by
 exact (l_Zg_0 p0 p1 (conj_of hq).1).2

abbrev con_Zg:Con := ⟨P_Zg,R_Zg,fun x => qre_Zg x.1 x.2,fun x => t_Zg x.1 x.2⟩
theorem ok_Zg:ConOk Try.prog 137 con_Zg := okG k_Zg e_Zg hC_Zg fun x hx => tf_of (w_Zg_eq x.1 x.2 _) (d_Zg x.1 x.2 _ (pp_Zg x.1 x.2 hx) (tt_Zg x.1 x.2 hx))
def C_Zw:Cons := [(137,[132],con_Zg)]
theorem hC_Zw:ConsOk Try.prog C_Zw := cC ok_Zg <| ConsOk.nil
def w_Zw (p0:gF) (_p1:PUnit) (K:Bool→Prop):Prop := ((lenOk p0) ∧(K (decide ((v_fidx p0) ≥ 0))))
theorem w_Zw_eq (p0:gF) (p1:PUnit) (K:Bool→Prop):tfn F_Zw A_Zw C_Zw P_Zw R_Zw (p0,p1) K = w_Zw p0 p1 K := by kernel_rfl
def s_Zw (p0:gF) (_p1:PUnit):Bool := (decide ((v_fidx p0) ≥ 0))
abbrev pre_Zw (p0:gF) (_p1:PUnit):List Prop := [(lenOk p0)]
theorem d_Zw (p0:gF) (p1:PUnit) (K:Bool→Prop) (hp:∀ p∈pre_Zw p0 p1,p) (h:K (s_Zw p0 p1)):w_Zw p0 p1 K := by
 unfold w_Zw
 unfold s_Zw at h
 obtain ⟨hp0,_⟩ := conj_of hp
 exact ⟨(hp0),h⟩
abbrev con_Zw:Con := ⟨P_Zw,R_Zw,fun x => pre_Zw x.1 x.2,fun x => s_Zw x.1 x.2⟩
theorem ok_Zw:ConOk Try.prog 124 con_Zw := okG k_Zw e_Zw hC_Zw fun x hx => tf_of (w_Zw_eq x.1 x.2 _) (d_Zw x.1 x.2 _ hx rfl)
def C_Zk:Cons := [(124,[132],con_Zw),(86,[],con_Z6),(66,[],con_Z7)]
theorem hC_Zk:ConsOk Try.prog C_Zk := cC ok_Zw <| cC ok_Z6 <| cC ok_Z7 <| ConsOk.nil
def w_Zk (p0:(Int×(Int×(Int×(Int×(Int×(Int×(Int×(Int×Int))))))))) (K:Int→Prop):Prop := ((lenOk (p0.2.1 :: (p0.2.2.1 :: (p0.2.2.2.1 :: (p0.2.2.2.2.1 :: (p0.2.2.2.2.2.1 :: (p0.2.2.2.2.2.2.1 :: (p0.2.2.2.2.2.2.2.1 :: (p0.2.2.2.2.2.2.2.2 :: ([]:List Int)))))))))) ∧((((s_Z6 p0.1 zz1 (1000000000:Int))=true) →((s_Z6 p0.1 zz1 (1000000000:Int))=(s_Z6 p0.1 zz1 (1000000000:Int)))) ∧(((s_Z6 p0.1 zz1 (1000000000:Int))=(s_Z6 p0.1 zz1 (1000000000:Int))) ∧(K (s_Z7 (cond (s_Z6 p0.1 zz1 (1000000000:Int)) (!(decide ((v_fidx (p0.2.1 :: (p0.2.2.1 :: (p0.2.2.2.1 :: (p0.2.2.2.2.1 :: (p0.2.2.2.2.2.1 :: (p0.2.2.2.2.2.2.1 :: (p0.2.2.2.2.2.2.2.1 :: (p0.2.2.2.2.2.2.2.2 :: ([]:List Int)))))))))) ≥ 0))) false) (2:Int))))))
theorem w_Zk_eq (p0:(Int×(Int×(Int×(Int×(Int×(Int×(Int×(Int×Int))))))))) (K:Int→Prop):tfn F_Zk A_Zk C_Zk P_Zk R_Zk p0 K = w_Zk p0 K := by kernel_rfl
def s_Zk (p0:(Int×(Int×(Int×(Int×(Int×(Int×(Int×(Int×Int))))))))):Int := (s_Z7 (cond (s_Z6 p0.1 (1:Int) (1000000000:Int)) (!(decide ((v_fidx (p0.2.1 :: (p0.2.2.1 :: (p0.2.2.2.1 :: (p0.2.2.2.2.1 :: (p0.2.2.2.2.2.1 :: (p0.2.2.2.2.2.2.1 :: (p0.2.2.2.2.2.2.2.1 :: (p0.2.2.2.2.2.2.2.2 :: ([]:List Int)))))))))) ≥ 0))) false) (2:Int))
abbrev pre_Zk (_p0:(Int×(Int×(Int×(Int×(Int×(Int×(Int×(Int×Int))))))))):List Prop := []
theorem d_Zk (p0:(Int×(Int×(Int×(Int×(Int×(Int×(Int×(Int×Int))))))))) (K:Int→Prop) (_hp:∀ p∈pre_Zk p0,p) (h:K (s_Zk p0)):w_Zk p0 K := by
 unfold w_Zk
 unfold s_Zk at h
 exact ⟨(lenOk_of 8 rfl (by decide)),rf,rfl,h⟩
/-- The parts of a fit; what is wrong with it. -/
def v_parts (f:Int×Int×Int×Int×Int×Int×Int×Int×Int):List Int := [f.2.1,f.2.2.1,f.2.2.2.1,f.2.2.2.2.1,f.2.2.2.2.2.1,f.2.2.2.2.2.2.1,f.2.2.2.2.2.2.2.1,f.2.2.2.2.2.2.2.2]
def v_ferr (f:Int×Int×Int×Int×Int×Int×Int×Int×Int):Int := cond (cond (s_Z4 f.1 1 1000000000) ((v_parts f).all v_prt) false) 0 2
structure v_fok (f:Int×Int×Int×Int×Int×Int×Int×Int×Int):Prop where
 den:1≤f.1∧f.1≤1000000000
 ok:∀ x∈v_parts f,-1000000000≤x∧x≤1000000000
theorem v_ferr_ok {f:Int×Int×Int×Int×Int×Int×Int×Int×Int} (h:v_ferr f = 0):v_fok f := by
 unfold v_ferr at h
 cases c:s_Z4 f.1 1 1000000000 <;> rw [c] at h
 ·cases h
 ·cases d:(v_parts f).all v_prt <;> rw [d] at h
  ·cases h
  ·exact ⟨tx_within.1 c,fun x hx => tx_within.1 (List.all_eq_true.1 d x hx)⟩
theorem v_parts_get {f:Int×Int×Int×Int×Int×Int×Int×Int×Int} (h:v_fok f) {k:Nat} (hk:k < 8) : -1000000000≤(v_parts f).getD k 0∧(v_parts f).getD k 0≤1000000000 := h.ok _ (getD_mem' 0 hk)
abbrev t_Zk (p0:Int×Int×Int×Int×Int×Int×Int×Int×Int):Int := v_ferr p0
abbrev qre_Zk (_p0:Int×Int×Int×Int×Int×Int×Int×Int×Int):List Prop := []
theorem pp_Zk (p0:Int×Int×Int×Int×Int×Int×Int×Int×Int) (_hq:∀ p∈qre_Zk p0,p):∀ p∈pre_Zk p0,p := by
 simp [pre_Zk]
theorem tt_Zk (p0:Int×Int×Int×Int×Int×Int×Int×Int×Int) (_hq:∀ p∈qre_Zk p0,p):s_Zk p0 = t_Zk p0 := by
 unfold s_Zk t_Zk v_ferr
 rw [show ([p0.2.1,p0.2.2.1,p0.2.2.2.1,p0.2.2.2.2.1,p0.2.2.2.2.2.1,p0.2.2.2.2.2.2.1,p0.2.2.2.2.2.2.2.1,p0.2.2.2.2.2.2.2.2]:List Int)=v_parts p0 from rfl,tx_unless]
 unfold v_fidx
 rw [v_scan_idx (c := fun x => !(v_prt x)) (v_parts p0) 0 (Int.le_refl _),show (v_parts p0).any (fun x => !(v_prt x)) = !((v_parts p0).all v_prt) by rw [List.not_all_eq_any_not],Bool.not_not]
 rfl

abbrev con_Zk:Con := ⟨P_Zk,R_Zk,fun x => qre_Zk x,fun x => t_Zk x⟩
theorem ok_Zk:ConOk Try.prog 117 con_Zk := okG k_Zk e_Zk hC_Zk fun x hx => tf_of (w_Zk_eq x _) (d_Zk x _ (pp_Zk x hx) (tt_Zk x hx))
def C_Zb:Cons := [(87,[],con_Zi)]
theorem hC_Zb:ConsOk Try.prog C_Zb := cC ok_Zi <| ConsOk.nil
def w_Zb (p0:(List (Int×(Int×(Int×(Int×Int)))))) (p1:Int) (p2:Int) (p3:(Int×(Int×(Int×(Int×(Int×(Int×(Int×(Int×Int))))))))) (K:Int→Prop):Prop := ((zz0≤p1) ∧((p1 < (p0.length:Int)) ∧((v_smp p0) ∧((zz0≤p1) ∧((p1 < (p0.length:Int)) ∧(∃ n0,(loopP (fun (y1:gG) k2 => ((((decide (y1.1 < 8))=true) →((zz0≤y1.1) ∧((y1.1 < 8) ∧((zz0≤y1.1) ∧((y1.1 < 8) ∧(k2 ((IntKind.i64.wrap (y1.1 + 1)),(IntKind.i64.wrap (y1.2 - (IntKind.i64.wrap ((List.getD (p3.2.1 :: (p3.2.2.1 :: (p3.2.2.2.1 :: (p3.2.2.2.2.1 :: (p3.2.2.2.2.2.1 :: (p3.2.2.2.2.2.2.1 :: (p3.2.2.2.2.2.2.2.1 :: (p3.2.2.2.2.2.2.2.2 :: ([]:List Int))))))))) y1.1.toNat zz0) * (List.getD ((v_tms p0 p1.toNat).1 :: ((v_tms p0 p1.toNat).2.1 :: ((v_tms p0 p1.toNat).2.2.1 :: ((v_tms p0 p1.toNat).2.2.2.1 :: ((v_tms p0 p1.toNat).2.2.2.2.1 :: ((v_tms p0 p1.toNat).2.2.2.2.2.1 :: ((v_tms p0 p1.toNat).2.2.2.2.2.2.1 :: ((v_tms p0 p1.toNat).2.2.2.2.2.2.2 :: ([]:List Int))))))))) y1.1.toNat zz0)))))))))))) ∧(((decide (y1.1 < 8))=false) →(K y1.2)))) n0 (p2,(IntKind.i64.wrap (p3.1 * (p0.getD p1.toNat (zz0,(zz0,(zz0,(zz0,zz0))))).2.2.2.2))))))))))
theorem w_Zb_eq (p0:(List (Int×(Int×(Int×(Int×Int)))))) (p1:Int) (p2:Int) (p3:(Int×(Int×(Int×(Int×(Int×(Int×(Int×(Int×Int))))))))) (K:Int→Prop):tfn F_Zb A_Zb C_Zb P_Zb R_Zb (p0,p1,p2,p3) K = w_Zb p0 p1 p2 p3 K := by kernel_rfl
def st_Zb_0 (p0:(List (Int×(Int×(Int×(Int×Int)))))) (p1:Int) (_p2:Int) (p3:(Int×(Int×(Int×(Int×(Int×(Int×(Int×(Int×Int))))))))) (y0:gG):(Int×Int) ⊕ Int := (cond (decide (y0.1 < 8)) (Sum.inl ((IntKind.i64.wrap (y0.1 + 1)),(IntKind.i64.wrap (y0.2 - (IntKind.i64.wrap ((List.getD (p3.2.1 :: (p3.2.2.1 :: (p3.2.2.2.1 :: (p3.2.2.2.2.1 :: (p3.2.2.2.2.2.1 :: (p3.2.2.2.2.2.2.1 :: (p3.2.2.2.2.2.2.2.1 :: (p3.2.2.2.2.2.2.2.2 :: ([]:List Int))))))))) y0.1.toNat (0:Int)) * (List.getD ((v_tms p0 p1.toNat).1 :: ((v_tms p0 p1.toNat).2.1 :: ((v_tms p0 p1.toNat).2.2.1 :: ((v_tms p0 p1.toNat).2.2.2.1 :: ((v_tms p0 p1.toNat).2.2.2.2.1 :: ((v_tms p0 p1.toNat).2.2.2.2.2.1 :: ((v_tms p0 p1.toNat).2.2.2.2.2.2.1 :: ((v_tms p0 p1.toNat).2.2.2.2.2.2.2 :: ([]:List Int))))))))) y0.1.toNat (0:Int)))))))) (Sum.inr y0.2))
abbrev sp_Zb_0 (_p0:(List (Int×(Int×(Int×(Int×Int)))))) (_p1:Int) (_p2:Int) (_p3:(Int×(Int×(Int×(Int×(Int×(Int×(Int×(Int×Int))))))))) (y0:gG):List Prop := [(((decide (y0.1 < 8))=true)→((0:Int)≤y0.1)),(((decide (y0.1 < 8))=true)→(y0.1 < 8))]
def s_Zb (p0:(List (Int×(Int×(Int×(Int×Int)))))) (p1:Int) (p2:Int) (p3:(Int×(Int×(Int×(Int×(Int×(Int×(Int×(Int×Int))))))))):Int := (lpv (0:Int) (st_Zb_0 p0 p1 p2 p3) (p2,(IntKind.i64.wrap (p3.1 * (p0.getD p1.toNat ((0:Int),((0:Int),((0:Int),(0,0))))).2.2.2.2))))
abbrev pre_Zb (p0:(List (Int×(Int×(Int×(Int×Int)))))) (p1:Int) (p2:Int) (p3:(Int×(Int×(Int×(Int×(Int×(Int×(Int×(Int×Int))))))))):List Prop := [((0:Int)≤p1),(p1 < (p0.length:Int)),(v_smp p0),(OkL (st_Zb_0 p0 p1 p2 p3) (sp_Zb_0 p0 p1 p2 p3) (p2,(IntKind.i64.wrap (p3.1 * (p0.getD p1.toNat ((0:Int),((0:Int),((0:Int),(0,0))))).2.2.2.2))))]
theorem d_Zb (p0:(List (Int×(Int×(Int×(Int×Int)))))) (p1:Int) (p2:Int) (p3:(Int×(Int×(Int×(Int×(Int×(Int×(Int×(Int×Int))))))))) (K:Int→Prop) (hp:∀ p∈pre_Zb p0 p1 p2 p3,p) (h:K (s_Zb p0 p1 p2 p3)):w_Zb p0 p1 p2 p3 K := by
 unfold w_Zb
 unfold s_Zb at h
 obtain ⟨hp0,hp1,hp2,hp3,_⟩ := conj_of hp
 exact ⟨(hp0),(hp1),(hp2),(hp0),(hp1),(loop_gen (hp3) h (fun y0 k0 hp h => by
 unfold st_Zb_0 at h; obtain ⟨hp0,hp1,_⟩ := conj_of hp
 exact (br' h (fun e1 h => ⟨(hp0 e1),(hp1 e1),(hp0 e1),(hp1 e1),h⟩)
  (fun e1 h => h))))⟩
/-- The terms of a sample as a list; what is left of a reading without its terms from one on. -/
def v_tml (q:Int×Int×Int×Int×Int×Int×Int×Int):List Int := [q.1,q.2.1,q.2.2.1,q.2.2.2.1,q.2.2.2.2.1,q.2.2.2.2.2.1,q.2.2.2.2.2.2.1,q.2.2.2.2.2.2.2]
def v_subs (a:Int) (ps ts:gF) (m:Nat):Nat→Int
 | 0 => a
 | k + 1 => v_subs a ps ts m k - ps.getD (m + k) 0 * ts.getD (m + k) 0
def v_left (l:List (Int×Int×Int×Int×Int)) (i m:Nat) (f:Int×Int×Int×Int×Int×Int×Int×Int×Int):Int := v_subs (f.1 * (l.getD i (0,0,0,0,0)).2.2.2.2) (v_parts f) (v_tml (v_tms l i)) m (8 - m)
theorem v_mulb {a b:Int} {m n:Nat} (ha:a.natAbs≤m) (hb:b.natAbs≤n):(a * b).natAbs≤m * n := by
 rw [Int.natAbs_mul]; exact Nat.mul_le_mul ha hb
theorem v_tml_le {l:List (Int×Int×Int×Int×Int)} (h:v_smp l) {i:Nat} (hi:i < l.length) {k:Nat} (hk:k < 8):((v_tml (v_tms l i)).getD k 0).natAbs≤100 := by
 have s := h.ok _ (getD_mem' (0,0,0,0,0) hi)
 have p := h.ok _ (getD_mem' (0,0,0,0,0) (show i - 1 < l.length by omega))
 have hx := s.x
 have hy := s.y
 have hz := s.z
 have gx := p.x
 have gy := p.y
 have m1 := v_mulb (a := (l.getD i (0,0,0,0,0)).2.1) (b := (l.getD i (0,0,0,0,0)).2.1) (m := 10) (n := 10) (by omega) (by omega)
 have m2 := v_mulb (a := (l.getD i (0,0,0,0,0)).2.1) (b := (l.getD i (0,0,0,0,0)).2.2.1) (m := 10) (n := 10) (by omega) (by omega)
 have hm:∀ x∈v_tml (v_tms l i),x.natAbs≤100 := by
  unfold v_tml v_tms
  simp only [fM]
  exact ⟨by omega,by omega,by omega,by omega,by omega,by omega,by omega,by omega,by simp⟩
 exact hm _ (getD_mem' 0 hk)
theorem v_subs_le {a:Int} {ps ts:List Int} {m:Nat} (hp:∀ k,k < 8→(ps.getD k 0).natAbs≤1000000000) (ht:∀ k,k < 8→(ts.getD k 0).natAbs≤100) (ha:a.natAbs≤100000000000000):∀ k,m + k≤8→(v_subs a ps ts m k).natAbs≤100000000000000 + 100000000000 * k
 | 0,_ => by unfold v_subs; omega
 | k + 1,h => by
  have ih := v_subs_le hp ht ha k (by omega) (m := m)
  have := v_mulb (hp (m + k) (by omega)) (ht (m + k) (by omega))
  unfold v_subs
  omega
theorem v_lft_a {l:List (Int×Int×Int×Int×Int)} (h:v_smp l) {i:Nat} (hi:i < l.length) {f:Int×Int×Int×Int×Int×Int×Int×Int×Int} (hf:v_fok f):(f.1 * (l.getD i (0,0,0,0,0)).2.2.2.2).natAbs≤100000000000000 := by
 have s := (h.ok _ (getD_mem' (0,0,0,0,0) hi)).v
 have d := hf.den
 exact v_mulb (m := 1000000000) (n := 100000) (by omega) (by omega)
theorem v_fok_nat {f:Int×Int×Int×Int×Int×Int×Int×Int×Int} (hf:v_fok f):∀ k,k < 8→((v_parts f).getD k 0).natAbs≤1000000000 := fun k hk => by have := v_parts_get hf hk; omega
theorem v_left_le {l:List (Int×Int×Int×Int×Int)} (h:v_smp l) {i:Nat} (hi:i < l.length) {f:Int×Int×Int×Int×Int×Int×Int×Int×Int} (hf:v_fok f) {m:Nat} (hm:m≤8):(v_left l i m f).natAbs≤101000000000000 := by
 have := v_subs_le (v_fok_nat hf) (fun k hk => v_tml_le h hi hk) (v_lft_a h hi hf) (8 - m) (by omega) (m := m)
 unfold v_left
 omega
theorem l_Zb_0 (l:List (Int×Int×Int×Int×Int)) (i m:Nat) (f:Int×Int×Int×Int×Int×Int×Int×Int×Int) (h:v_smp l) (hi:i < l.length) (hm:m≤1) (hf:v_fok f):OkL (st_Zb_0 l (i:Int) (m:Int) f) (sp_Zb_0 l (i:Int) (m:Int) f) ((m:Int),IntKind.i64.wrap (f.1 * (l.getD (i:Int).toNat (0,0,0,0,0)).2.2.2.2))∧lpv 0 (st_Zb_0 l (i:Int) (m:Int) f) ((m:Int),IntKind.i64.wrap (f.1 * (l.getD (i:Int).toNat (0,0,0,0,0)).2.2.2.2))=v_left l i m f := by
 have ha := v_lft_a h hi hf
 rw [Int.toNat_natCast,wrap_id (n := f.1 * (l.getD i (0,0,0,0,0)).2.2.2.2) (by omega) (by omega)]
 have main := @for_is Int (Int×Int) Int 0 (st_Zb_0 l (i:Int) (m:Int) f) (sp_Zb_0 l (i:Int) (m:Int) f) (fun i t => (i,t)) m 8 (fun j t => t = v_subs (f.1 * (l.getD i (0,0,0,0,0)).2.2.2.2) (v_parts f) (v_tml (v_tms l i)) m (j - m)) (fun _ _ => v_left l i m f) (by omega) (by omega) ?_ ?_ (f.1 * (l.getD i (0,0,0,0,0)).2.2.2.2) (by rw [Nat.sub_self]; rfl)
 ·exact main
 ·rintro t h3
  simp only [sp_Zb_0,st_Zb_0,fM,show decide (((8:Nat):Int) < 8)=false from rfl,cond_false,h3]
  refine ⟨?_,by first | rfl | trivial⟩
  and_intros
  all_goals first
   | (intro h; cases h; done)
   | (intro p hp; cases hp)
 ·rintro j t h0 hj h3
  have hw1:IntKind.i64.wrap ((j:Int) + 1)=((j + 1:Nat):Int) := wrap_id (by omega) (by omega)
  have hd:decide ((j:Int) < 8)=true := decide_eq_true (by omega)
  have b1 := v_subs_le (v_fok_nat hf) (fun k hk => v_tml_le h hi hk) ha (j - m) (by omega) (m := m)
  have b2 := v_mulb (v_fok_nat hf j hj) (v_tml_le h hi hj)
  have hs:v_subs (f.1 * (l.getD i (0,0,0,0,0)).2.2.2.2) (v_parts f) (v_tml (v_tms l i)) m (j + 1 - m)=v_subs (f.1 * (l.getD i (0,0,0,0,0)).2.2.2.2) (v_parts f) (v_tml (v_tms l i)) m (j - m) - (v_parts f).getD j 0 * (v_tml (v_tms l i)).getD j 0 := by
   rw [show j + 1 - m = (j - m) + 1 by omega]
   show _ - (v_parts f).getD (m + (j - m)) 0 * (v_tml (v_tms l i)).getD (m + (j - m)) 0 = _
   rw [show m + (j - m)=j by omega]
  rw [← h3] at b1 hs
  have e1:([f.2.1,f.2.2.1,f.2.2.2.1,f.2.2.2.2.1,f.2.2.2.2.2.1,f.2.2.2.2.2.2.1,f.2.2.2.2.2.2.2.1,f.2.2.2.2.2.2.2.2]:List Int)=v_parts f := rfl
  have e2:([(v_tms l i).1,(v_tms l i).2.1,(v_tms l i).2.2.1,(v_tms l i).2.2.2.1,(v_tms l i).2.2.2.2.1,(v_tms l i).2.2.2.2.2.1,(v_tms l i).2.2.2.2.2.2.1,(v_tms l i).2.2.2.2.2.2.2]:List Int)=v_tml (v_tms l i) := rfl
  have w1:IntKind.i64.wrap ((v_parts f).getD j 0 * (v_tml (v_tms l i)).getD j 0)=(v_parts f).getD j 0 * (v_tml (v_tms l i)).getD j 0 := wrap_id (by omega) (by omega)
  have w2:IntKind.i64.wrap (t - (v_parts f).getD j 0 * (v_tml (v_tms l i)).getD j 0)=t - (v_parts f).getD j 0 * (v_tml (v_tms l i)).getD j 0 := wrap_id (by omega) (by omega)
  simp only [sp_Zb_0,st_Zb_0,fM,hd,cond_true,Int.toNat_natCast,hw1,e1,e2,w1,w2]
  refine ⟨?_,.inl ⟨_,rfl,hs.symm,by first | rfl | trivial⟩⟩
  and_intros
  all_goals first
   | (intro p hp; cases hp; done)
   | (intros; omega)
abbrev t_Zb (p0:List (Int×Int×Int×Int×Int)) (p1:Int) (p2:Int) (p3:Int×Int×Int×Int×Int×Int×Int×Int×Int):Int := v_left p0 p1.toNat p2.toNat p3
abbrev qre_Zb (p0:List (Int×Int×Int×Int×Int)) (p1:Int) (p2:Int) (p3:Int×Int×Int×Int×Int×Int×Int×Int×Int):List Prop := [v_smp p0,0≤p1,p1 < p0.length,0≤p2∧p2≤1,v_fok p3]
theorem pp_Zb (p0:List (Int×Int×Int×Int×Int)) (p1:Int) (p2:Int) (p3:Int×Int×Int×Int×Int×Int×Int×Int×Int) (hq:∀ p∈qre_Zb p0 p1 p2 p3,p):∀ p∈pre_Zb p0 p1 p2 p3,p := by
 obtain ⟨h1,h2,h3,h4,h5,_⟩ := conj_of hq
 obtain ⟨i,rfl⟩ : ∃ i:Nat,p1 = i := ⟨p1.toNat,by omega⟩
 obtain ⟨m,rfl⟩ : ∃ m:Nat,p2 = m := ⟨p2.toNat,by omega⟩
 have hl := (l_Zb_0 p0 i m p3 h1 (by omega) (by omega) h5).1
 simp only [pre_Zb,fM]
 first
  | exact ⟨by omega,by omega,h1,hl,by simp⟩
  | exact ⟨h1,by omega,by omega,hl,by simp⟩
theorem tt_Zb (p0:List (Int×Int×Int×Int×Int)) (p1:Int) (p2:Int) (p3:Int×Int×Int×Int×Int×Int×Int×Int×Int) (hq:∀ p∈qre_Zb p0 p1 p2 p3,p):s_Zb p0 p1 p2 p3 = t_Zb p0 p1 p2 p3 := by
 obtain ⟨h1,h2,h3,h4,h5,_⟩ := conj_of hq
 obtain ⟨i,rfl⟩ : ∃ i:Nat,p1 = i := ⟨p1.toNat,by omega⟩
 obtain ⟨m,rfl⟩ : ∃ m:Nat,p2 = m := ⟨p2.toNat,by omega⟩
 exact (l_Zb_0 p0 i m p3 h1 (by omega) (by omega) h5).2

abbrev con_Zb:Con := ⟨P_Zb,R_Zb,fun x => qre_Zb x.1 x.2.1 x.2.2.1 x.2.2.2,fun x => t_Zb x.1 x.2.1 x.2.2.1 x.2.2.2⟩
theorem ok_Zb:ConOk Try.prog 118 con_Zb := okG k_Zb e_Zb hC_Zb fun x hx => tf_of (w_Zb_eq x.1 x.2.1 x.2.2.1 x.2.2.2 _) (d_Zb x.1 x.2.1 x.2.2.1 x.2.2.2 _ (pp_Zb x.1 x.2.1 x.2.2.1 x.2.2.2 hx) (tt_Zb x.1 x.2.1 x.2.2.1 x.2.2.2 hx))
def C_Zn:Cons := []
theorem hC_Zn:ConsOk Try.prog C_Zn := ConsOk.nil
def w_Zn (p0:Int) (p1:Int) (K:Int→Prop):Prop := ((p1 ≠ zz0) ∧((p1 ≠ zz0) ∧((((decide ((Int.tmod p0 p1) < 0))=true) →(K (IntKind.i64.wrap ((IntKind.i64.wrap (Int.tdiv p0 p1)) - 1)))) ∧(((decide ((Int.tmod p0 p1) < 0))=false) →(K (IntKind.i64.wrap (Int.tdiv p0 p1)))))))
theorem w_Zn_eq (p0:Int) (p1:Int) (K:Int→Prop):tfn F_Zn A_Zn C_Zn P_Zn R_Zn (p0,p1) K = w_Zn p0 p1 K := by kernel_rfl
def s_Zn (p0:Int) (p1:Int):Int := (cond (decide ((Int.tmod p0 p1) < 0)) (IntKind.i64.wrap ((IntKind.i64.wrap (Int.tdiv p0 p1)) - 1)) (IntKind.i64.wrap (Int.tdiv p0 p1)))
abbrev pre_Zn (_p0:Int) (p1:Int):List Prop := [(p1 ≠ (0:Int))]
theorem d_Zn (p0:Int) (p1:Int) (K:Int→Prop) (hp:∀ p∈pre_Zn p0 p1,p) (h:K (s_Zn p0 p1)):w_Zn p0 p1 K := by
 unfold w_Zn
 unfold s_Zn at h
 obtain ⟨hp0,_⟩ := conj_of hp
 exact ⟨(hp0),(hp0),(br' h (fun e0 h => h)
  (fun e0 h => h))⟩
abbrev t_Zn (p0 p1:Int):Int := p0 / p1
abbrev qre_Zn (p0 p1:Int):List Prop := [v_fit p0,0 < p1]
theorem pp_Zn (p0 p1:Int) (hq:∀ p∈qre_Zn p0 p1,p):∀ p∈pre_Zn p0 p1,p := by
 simp only [pre_Zn,fM]
 have := (conj_of hq).2.1
 exact ⟨by omega,by simp⟩
theorem tt_Zn (p0 p1:Int) (hq:∀ p∈qre_Zn p0 p1,p):s_Zn p0 p1 = t_Zn p0 p1 := floor_is (conj_of hq).1 (conj_of hq).2.1

abbrev con_Zn:Con := ⟨P_Zn,R_Zn,fun x => qre_Zn x.1 x.2,fun x => t_Zn x.1 x.2⟩
theorem ok_Zn:ConOk Try.prog 30 con_Zn := okG k_Zn e_Zn hC_Zn fun x hx => tf_of (w_Zn_eq x.1 x.2 _) (d_Zn x.1 x.2 _ (pp_Zn x.1 x.2 hx) (tt_Zn x.1 x.2 hx))
def C_Zl:Cons := [(30,[],con_Zn)]
theorem hC_Zl:ConsOk Try.prog C_Zl := cC ok_Zn <| ConsOk.nil
def w_Zl (p0:Int) (p1:Int) (K:Int→Prop):Prop := ((v_fit (IntKind.i64.wrap (zz0 - p0))) ∧((zz0 < p1) ∧(K (IntKind.i64.wrap (zz0 - ((IntKind.i64.wrap (zz0 - p0)) / p1))))))
theorem w_Zl_eq (p0:Int) (p1:Int) (K:Int→Prop):tfn F_Zl A_Zl C_Zl P_Zl R_Zl (p0,p1) K = w_Zl p0 p1 K := by kernel_rfl
def s_Zl (p0:Int) (p1:Int):Int := (IntKind.i64.wrap ((0:Int) - ((IntKind.i64.wrap ((0:Int) - p0)) / p1)))
abbrev pre_Zl (p0:Int) (p1:Int):List Prop := [(v_fit (IntKind.i64.wrap ((0:Int) - p0))),((0:Int) < p1)]
theorem d_Zl (p0:Int) (p1:Int) (K:Int→Prop) (hp:∀ p∈pre_Zl p0 p1,p) (h:K (s_Zl p0 p1)):w_Zl p0 p1 K := by
 unfold w_Zl
 unfold s_Zl at h
 obtain ⟨hp0,hp1,_⟩ := conj_of hp
 exact ⟨(hp0),(hp1),h⟩
theorem tx_Zl {n b:Int} (hn:v_fit n) (_hb:0 < b):s_Zl n b = v_ceil n b := by
 unfold v_fit at hn
 unfold s_Zl v_ceil
 rw [wrap_id (n := 0 - n) (by omega) (by omega),show (0:Int) - n = -n by omega]
 have h:((-n) / b).natAbs≤(-n).natAbs := Int.natAbs_ediv_le_natAbs _ _
 have h2 : -n / b≤9223372036854775807 := by omega
 have h3 : -9223372036854775808≤-n / b := by omega
 rw [wrap_id (n := 0 - -n / b) (by omega) (by omega)]; omega
abbrev t_Zl (p0 p1:Int):Int := v_ceil p0 p1
abbrev qre_Zl (p0 p1:Int):List Prop := [v_fit p0,0 < p1]
theorem pp_Zl (p0 p1:Int) (hq:∀ p∈qre_Zl p0 p1,p):∀ p∈pre_Zl p0 p1,p := by
 obtain ⟨h1,h2,_⟩ := conj_of hq
 unfold v_fit at h1
 simp only [pre_Zl,fM,wrap_id (n := 0 - p0) (by omega) (by omega)]
 exact ⟨by unfold v_fit; omega,h2,by simp⟩
theorem tt_Zl (p0 p1:Int) (hq:∀ p∈qre_Zl p0 p1,p):s_Zl p0 p1 = t_Zl p0 p1 := tx_Zl (conj_of hq).1 (conj_of hq).2.1

abbrev con_Zl:Con := ⟨P_Zl,R_Zl,fun x => qre_Zl x.1 x.2,fun x => t_Zl x.1 x.2⟩
theorem ok_Zl:ConOk Try.prog 31 con_Zl := okG k_Zl e_Zl hC_Zl fun x hx => tf_of (w_Zl_eq x.1 x.2 _) (d_Zl x.1 x.2 _ (pp_Zl x.1 x.2 hx) (tt_Zl x.1 x.2 hx))
def C_Zj:Cons := []
theorem hC_Zj:ConsOk Try.prog C_Zj := ConsOk.nil
def w_Zj (p0:Int) (p1:Int) (K:(Int×Int)→Prop):Prop := ((p1 ≠ zz0) ∧((p1 ≠ zz0) ∧((((decide ((Int.tmod p0 p1) < 0))=true) →(((((IntKind.i64.wrap ((IntKind.i64.wrap ((IntKind.i64.wrap (Int.tdiv p0 p1)) - 1)) * p1)) != p0)=true) →(K ((IntKind.i64.wrap ((IntKind.i64.wrap (Int.tdiv p0 p1)) - 1)),(IntKind.i64.wrap ((IntKind.i64.wrap ((IntKind.i64.wrap (Int.tdiv p0 p1)) - 1)) + 1))))) ∧((((IntKind.i64.wrap ((IntKind.i64.wrap ((IntKind.i64.wrap (Int.tdiv p0 p1)) - 1)) * p1)) != p0)=false) →(K ((IntKind.i64.wrap ((IntKind.i64.wrap (Int.tdiv p0 p1)) - 1)),(IntKind.i64.wrap ((IntKind.i64.wrap (Int.tdiv p0 p1)) - 1))))))) ∧(((decide ((Int.tmod p0 p1) < 0))=false) →(((((IntKind.i64.wrap ((IntKind.i64.wrap (Int.tdiv p0 p1)) * p1)) != p0)=true) →(K ((IntKind.i64.wrap (Int.tdiv p0 p1)),(IntKind.i64.wrap ((IntKind.i64.wrap (Int.tdiv p0 p1)) + 1))))) ∧((((IntKind.i64.wrap ((IntKind.i64.wrap (Int.tdiv p0 p1)) * p1)) != p0)=false) →(K ((IntKind.i64.wrap (Int.tdiv p0 p1)),(IntKind.i64.wrap (Int.tdiv p0 p1))))))))))
theorem w_Zj_eq (p0:Int) (p1:Int) (K:(Int×Int)→Prop):tfn F_Zj A_Zj C_Zj P_Zj R_Zj (p0,p1) K = w_Zj p0 p1 K := by kernel_rfl
def s_Zj (p0:Int) (p1:Int):(Int×Int) := (cond (decide ((Int.tmod p0 p1) < 0)) (cond ((IntKind.i64.wrap ((IntKind.i64.wrap ((IntKind.i64.wrap (Int.tdiv p0 p1)) - 1)) * p1)) != p0) ((IntKind.i64.wrap ((IntKind.i64.wrap (Int.tdiv p0 p1)) - 1)),(IntKind.i64.wrap ((IntKind.i64.wrap ((IntKind.i64.wrap (Int.tdiv p0 p1)) - 1)) + 1))) ((IntKind.i64.wrap ((IntKind.i64.wrap (Int.tdiv p0 p1)) - 1)),(IntKind.i64.wrap ((IntKind.i64.wrap (Int.tdiv p0 p1)) - 1)))) (cond ((IntKind.i64.wrap ((IntKind.i64.wrap (Int.tdiv p0 p1)) * p1)) != p0) ((IntKind.i64.wrap (Int.tdiv p0 p1)),(IntKind.i64.wrap ((IntKind.i64.wrap (Int.tdiv p0 p1)) + 1))) ((IntKind.i64.wrap (Int.tdiv p0 p1)),(IntKind.i64.wrap (Int.tdiv p0 p1)))))
abbrev pre_Zj (_p0:Int) (p1:Int):List Prop := [(p1 ≠ (0:Int))]
theorem d_Zj (p0:Int) (p1:Int) (K:(Int×Int)→Prop) (hp:∀ p∈pre_Zj p0 p1,p) (h:K (s_Zj p0 p1)):w_Zj p0 p1 K := by
 unfold w_Zj
 unfold s_Zj at h
 obtain ⟨hp0,_⟩ := conj_of hp
 exact ⟨(hp0),(hp0),(br' h (fun e0 h => (br' h (fun e1 h => h)
  (fun e1 h => h)))
  (fun e0 h => (br' h (fun e2 h => h)
  (fun e2 h => h))))⟩
abbrev t_Zj (p0:Int) (p1:Int):Int×Int := (p0 / p1,v_ceil p0 p1)
abbrev qre_Zj (p0:Int) (p1:Int):List Prop := [-4611686018427387904≤p0∧p0≤4611686018427387904,0 < p1∧p1≤4611686018427387904]
theorem pp_Zj (p0:Int) (p1:Int) (hq:∀ p∈qre_Zj p0 p1,p):∀ p∈pre_Zj p0 p1,p := by
 obtain ⟨h1,h2,_⟩ := conj_of hq
 simp only [pre_Zj,fM]
 exact ⟨by omega,by simp⟩
theorem tt_Zj (p0:Int) (p1:Int) (hq:∀ p∈qre_Zj p0 p1,p):s_Zj p0 p1 = t_Zj p0 p1 := by
 obtain ⟨h1,h2,_⟩ := conj_of hq
 have hf := floor_is (n := p0) (b := p1) ⟨by omega,by omega⟩ h2.1
 have m1 := Int.mul_ediv_add_emod p0 p1
 have m2 := Int.emod_nonneg p0 (show p1 ≠ 0 by omega)
 have m3 := Int.emod_lt_of_pos p0 h2.1
 have m4:p1 * (p0 / p1)=p0 / p1 * p1 := Int.mul_comm _ _
 have hd:(p0 / p1).natAbs≤p0.natAbs := Int.natAbs_ediv_le_natAbs _ _
 have w1:IntKind.i64.wrap (p0 / p1 * p1)=p0 / p1 * p1 := wrap_id (by omega) (by omega)
 have w2:IntKind.i64.wrap (p0 / p1 + 1)=p0 / p1 + 1 := wrap_id (by omega) (by omega)
 have hc:v_ceil p0 p1 = cond ((p0 / p1 * p1) != p0) (p0 / p1 + 1) (p0 / p1) := by
  unfold v_ceil
  by_cases e:p0 / p1 * p1 = p0
  ·rw [bne_eq_false_iff_eq.2 e,cond_false]
   have := ((Int.ediv_emod_unique (a := -p0) (b := p1) (q := -(p0 / p1)) (r := 0) h2.1).2 ⟨by rw [Int.mul_neg]; omega,by omega,h2.1⟩).1
   omega
  ·rw [bne_iff_ne.2 e,cond_true]
   have := ((Int.ediv_emod_unique (a := -p0) (b := p1) (q := -(p0 / p1) - 1) (r := p1 - p0 % p1) h2.1).2 ⟨by rw [Int.mul_sub,Int.mul_neg,Int.mul_one]; omega,by omega,by omega⟩).1
   omega
 unfold s_Zj t_Zj
 cases c:decide (p0.tmod p1 < 0) <;> rw [c] at hf <;> simp only [cond_true,cond_false] at hf ⊢ <;> rw [hf,w1,w2,hc] <;> cases (p0 / p1 * p1 != p0) <;> rfl

abbrev con_Zj:Con := ⟨P_Zj,R_Zj,fun x => qre_Zj x.1 x.2,fun x => t_Zj x.1 x.2⟩
theorem ok_Zj:ConOk Try.prog 68 con_Zj := okG k_Zj e_Zj hC_Zj fun x hx => tf_of (w_Zj_eq x.1 x.2 _) (d_Zj x.1 x.2 _ (pp_Zj x.1 x.2 hx) (tt_Zj x.1 x.2 hx))
structure v_ser (l:gF):Prop where
 ne:0 < l.length
 len:l.length≤40
 ok:∀ x∈l,-100000≤x∧x≤100000
def C_Zs:Cons := [(32,[],con_Z2)]
theorem hC_Zs:ConsOk Try.prog C_Zs := cC ok_Z2 <| ConsOk.nil
def w_Zs (p0:(List (Int×(Int×(Int×(Int×Int)))))) (K:Int→Prop):Prop := (K (v_cs p0).2)
theorem w_Zs_eq (p0:(List (Int×(Int×(Int×(Int×Int)))))) (K:Int→Prop):tfn F_Zs A_Zs C_Zs P_Zs R_Zs p0 K = w_Zs p0 K := by kernel_rfl
def s_Zs (p0:(List (Int×(Int×(Int×(Int×Int)))))):Int := (v_cs p0).2
abbrev pre_Zs (_p0:(List (Int×(Int×(Int×(Int×Int)))))):List Prop := []
theorem d_Zs (p0:(List (Int×(Int×(Int×(Int×Int)))))) (K:Int→Prop) (_hp:∀ p∈pre_Zs p0,p) (h:K (s_Zs p0)):w_Zs p0 K := by
 unfold w_Zs
 unfold s_Zs at h
 exact h
abbrev con_Zs:Con := ⟨P_Zs,R_Zs,fun x => pre_Zs x,fun x => s_Zs x⟩
theorem ok_Zs:ConOk Try.prog 72 con_Zs := okG k_Zs e_Zs hC_Zs fun x hx => tf_of (w_Zs_eq x _) (d_Zs x _ hx rfl)
theorem tx_first3 {x y z:Int}:v_first [x,y,z]=cond (x != 0) x (cond (y != 0) y z) := by
 simp only [v_first]
 cases h:(x != 0)
 ·cases h2:(y != 0)
  ·cases h3:(z != 0)
   ·simp at h3; subst h3; rfl
   ·rfl
  ·rfl
 ·rfl
def C_Z8:Cons := [(72,[],con_Zs),(117,[],con_Zk),(71,[],con_Z9),(118,[],con_Zb),(68,[],con_Zj)]
theorem hC_Z8:ConsOk Try.prog C_Z8 := cC ok_Zs <| cC ok_Zk <| cC ok_Z9 <| cC ok_Zb <| cC ok_Zj <| ConsOk.nil
def w_Z8 (p0:(List (Int×(Int×(Int×(Int×Int)))))) (p1:(Int×(Int×(Int×(Int×(Int×(Int×(Int×(Int×Int))))))))) (p2:Int) (K:((List (Int×Int))×Int)→Prop):Prop := ((lenOk ((v_cs p0).2 :: ((v_ferr p1) :: ([]:List Int)))) ∧(((((v_first ((v_cs p0).2 :: ((v_ferr p1) :: ([]:List Int)))) != 0)=true) →(K (([]:List (Int×Int)),(v_first ((v_cs p0).2 :: ((v_ferr p1) :: ([]:List Int))))))) ∧((((v_first ((v_cs p0).2 :: ((v_ferr p1) :: ([]:List Int)))) != 0)=false) →(∃ n0,(loopP (fun (y1:(Int×(List (Int×Int)))) k2 => ((((decide (y1.1 < (p0.length:Int)))=true) →((v_smp p0) ∧((zz0≤y1.1) ∧((y1.1 < (p0.length:Int)) ∧(((zz0≤p2) ∧(p2≤1)) ∧((v_fok p1) ∧((((-4611686018427387904:Int)≤(v_left p0 y1.1.toNat p2.toNat p1)) ∧((v_left p0 y1.1.toNat p2.toNat p1)≤4611686018427387904)) ∧(((zz0 < p1.1) ∧(p1.1≤4611686018427387904)) ∧((((y1.2.length + (List.length ((((v_left p0 y1.1.toNat p2.toNat p1) / p1.1),(v_ceil (v_left p0 y1.1.toNat p2.toNat p1) p1.1)) :: ([]:List (Int×Int))))) * 16)≤140737488355328) ∧(k2 ((IntKind.i64.wrap (y1.1 + 1)),(y1.2 ++ ((((v_left p0 y1.1.toNat p2.toNat p1) / p1.1),(v_ceil (v_left p0 y1.1.toNat p2.toNat p1) p1.1)) :: ([]:List (Int×Int))))))))))))))) ∧(((decide (y1.1 < (p0.length:Int)))=false) →(K (y1.2,zz0))))) n0 (zz0,([]:List (Int×Int))))))))
theorem w_Z8_eq (p0:(List (Int×(Int×(Int×(Int×Int)))))) (p1:(Int×(Int×(Int×(Int×(Int×(Int×(Int×(Int×Int))))))))) (p2:Int) (K:((List (Int×Int))×Int)→Prop):tfn F_Z8 A_Z8 C_Z8 P_Z8 R_Z8 (p0,p1,p2) K = w_Z8 p0 p1 p2 K := by kernel_rfl
def st_Z8_0 (p0:(List (Int×(Int×(Int×(Int×Int)))))) (p1:(Int×(Int×(Int×(Int×(Int×(Int×(Int×(Int×Int))))))))) (p2:Int) (y1:(Int×(List (Int×Int)))):(Int×(List (Int×Int))) ⊕ ((List (Int×Int))×Int) := (cond (decide (y1.1 < (p0.length:Int))) (Sum.inl ((IntKind.i64.wrap (y1.1 + 1)),(y1.2 ++ ((((v_left p0 y1.1.toNat p2.toNat p1) / p1.1),(v_ceil (v_left p0 y1.1.toNat p2.toNat p1) p1.1)) :: ([]:List (Int×Int)))))) (Sum.inr (y1.2,(0:Int))))
abbrev sp_Z8_0 (p0:(List (Int×(Int×(Int×(Int×Int)))))) (p1:(Int×(Int×(Int×(Int×(Int×(Int×(Int×(Int×Int))))))))) (p2:Int) (y1:(Int×(List (Int×Int)))):List Prop := [(((decide (y1.1 < (p0.length:Int)))=true)→(v_smp p0)),(((decide (y1.1 < (p0.length:Int)))=true)→((0:Int)≤y1.1)),(((decide (y1.1 < (p0.length:Int)))=true)→(y1.1 < (p0.length:Int))),(((decide (y1.1 < (p0.length:Int)))=true)→(((0:Int)≤p2)∧(p2≤1))),(((decide (y1.1 < (p0.length:Int)))=true)→(v_fok p1)),(((decide (y1.1 < (p0.length:Int)))=true)→(((-4611686018427387904:Int)≤(v_left p0 y1.1.toNat p2.toNat p1))∧((v_left p0 y1.1.toNat p2.toNat p1)≤4611686018427387904))),(((decide (y1.1 < (p0.length:Int)))=true)→(((0:Int) < p1.1)∧(p1.1≤4611686018427387904))),(((decide (y1.1 < (p0.length:Int)))=true)→(((y1.2.length + (List.length ((((v_left p0 y1.1.toNat p2.toNat p1) / p1.1),(v_ceil (v_left p0 y1.1.toNat p2.toNat p1) p1.1)) :: ([]:List (Int×Int))))) * 16)≤140737488355328))]
def s_Z8 (p0:(List (Int×(Int×(Int×(Int×Int)))))) (p1:(Int×(Int×(Int×(Int×(Int×(Int×(Int×(Int×Int))))))))) (p2:Int):((List (Int×Int))×Int) := (cond ((v_first ((v_cs p0).2 :: ((v_ferr p1) :: ([]:List Int)))) != 0) (([]:List (Int×Int)),(v_first ((v_cs p0).2 :: ((v_ferr p1) :: ([]:List Int))))) (lpv ([],(0:Int)) (st_Z8_0 p0 p1 p2) ((0:Int),([]:List (Int×Int)))))
abbrev pre_Z8 (p0:(List (Int×(Int×(Int×(Int×Int)))))) (p1:(Int×(Int×(Int×(Int×(Int×(Int×(Int×(Int×Int))))))))) (p2:Int):List Prop := [((((v_first ((v_cs p0).2 :: ((v_ferr p1) :: ([]:List Int)))) != 0)=false)→(OkL (st_Z8_0 p0 p1 p2) (sp_Z8_0 p0 p1 p2) ((0:Int),([]:List (Int×Int)))))]
theorem d_Z8 (p0:(List (Int×(Int×(Int×(Int×Int)))))) (p1:(Int×(Int×(Int×(Int×(Int×(Int×(Int×(Int×Int))))))))) (p2:Int) (K:((List (Int×Int))×Int)→Prop) (hp:∀ p∈pre_Z8 p0 p1 p2,p) (h:K (s_Z8 p0 p1 p2)):w_Z8 p0 p1 p2 K := by
 unfold w_Z8
 unfold s_Z8 at h
 obtain ⟨hp0,_⟩ := conj_of hp
 exact ⟨(lenOk_of 2 rfl (by decide)),(br' h (fun e0 h => h)
  (fun e0 h => (loop_gen (hp0 e0) h (fun y1 k1 hp h => by
 unfold st_Z8_0 at h; obtain ⟨hp0,hp1,hp2,hp3,hp4,hp5,hp6,hp7,_⟩ := conj_of hp
 exact (br' h (fun e2 h => ⟨(hp0 e2),(hp1 e2),(hp2 e2),(hp3 e2),(hp4 e2),(hp5 e2),(hp6 e2),(hp7 e2),h⟩)
  (fun e2 h => h))))))⟩
/-- What remains of a reading,of all; what is wrong. -/
def v_rnd (l:List (Int×Int×Int×Int×Int)) (f:Int×Int×Int×Int×Int×Int×Int×Int×Int) (m j:Nat):Int×Int := (v_left l j m f / f.1,v_ceil (v_left l j m f) f.1)
def v_rem (l:List (Int×Int×Int×Int×Int)) (m:Nat) (f:Int×Int×Int×Int×Int×Int×Int×Int×Int):List (Int×Int) := (List.range' 0 l.length).map (v_rnd l f m)
def v_rerr (l:List (Int×Int×Int×Int×Int)) (f:Int×Int×Int×Int×Int×Int×Int×Int×Int):Int := v_first [(v_cs l).2,v_ferr f]
def v_rmx (l:List (Int×Int×Int×Int×Int)) (f:Int×Int×Int×Int×Int×Int×Int×Int×Int) (m:Int):List (Int×Int)×Int := cond (v_rerr l f != 0) ([],v_rerr l f) (v_rem l m.toNat f,0)
theorem v_rem_len (l:List (Int×Int×Int×Int×Int)) (m:Nat) (f:Int×Int×Int×Int×Int×Int×Int×Int×Int):(v_rem l m f).length = l.length := by unfold v_rem; simp
theorem v_rerr_ok {l:List (Int×Int×Int×Int×Int)} {f:Int×Int×Int×Int×Int×Int×Int×Int×Int} (h:v_rerr l f = 0):v_smp l∧v_fok f := by
 unfold v_rerr at h
 obtain ⟨h1,h2⟩ := v_first0 h
 exact ⟨v_cs_iff.1 h1,v_ferr_ok (v_first0 h2).1⟩
theorem v_rmx_cases (l:List (Int×Int×Int×Int×Int)) (f:Int×Int×Int×Int×Int×Int×Int×Int×Int) (m:Int):((v_cs l).2 ≠ 0∧v_rmx l f m = ([],(v_cs l).2)) ∨ (v_cs l).2 = 0∧((v_ferr f ≠ 0∧v_rmx l f m = ([],v_ferr f)) ∨ (v_ferr f = 0∧v_rmx l f m = (v_rem l m.toNat f,0))) := by
 unfold v_rmx v_rerr
 rw [tx_first2]
 rcases int0 (v_cs l).2 with ⟨z1,e1,_⟩ | ⟨z1,e1,_⟩ <;> rw [e1]
 ·refine .inr ⟨z1,?_⟩
  rcases int0 (v_ferr f) with ⟨z2,e2,_⟩ | ⟨z2,e2,_⟩
  ·exact .inr ⟨z2,by rw [cond_false,e2]; rfl⟩
  ·exact .inl ⟨z2,by rw [cond_false,e2]; rfl⟩
 ·exact .inl ⟨z1,by simp only [cond_true]; rw [e1]; rfl⟩
theorem l_Z8_0 (l:List (Int×Int×Int×Int×Int)) (f:Int×Int×Int×Int×Int×Int×Int×Int×Int) (m:Nat) (hm:m≤1) (h:v_smp l) (hf:v_fok f):OkL (st_Z8_0 l f m) (sp_Z8_0 l f m) (0,[])∧lpv ([],0) (st_Z8_0 l f m) (0,[])=((v_rem l m f),0) := by
 have hl := h.len
 have hd := hf.den
 refine @forapp_is (Int×Int) (Int×List (Int×Int)) (List (Int×Int)×Int) ([],0) (st_Z8_0 l f m) (sp_Z8_0 l f m) (fun i t => (i,t)) 0 l.length (v_rnd l f m) (fun t => (t,0)) (Nat.zero_le _) (by omega) ?_ ?_
 ·rintro t _
  simp only [sp_Z8_0,st_Z8_0,fM,decide_eq_false (Int.lt_irrefl (l.length:Int)),cond_false]
  refine ⟨?_,by first | rfl | trivial⟩
  and_intros
  all_goals first
   | (intro h; cases h; done)
   | (intro p hp; cases hp)
 ·rintro j t h0 hj h1
  have hw1:IntKind.i64.wrap ((j:Int) + 1)=((j + 1:Nat):Int) := wrap_id (by omega) (by omega)
  have hdd:decide ((j:Int) < (l.length:Int))=true := decide_eq_true (by omega)
  have hb := v_left_le h hj hf (m := m) (by omega)
  simp only [sp_Z8_0,st_Z8_0,fM,Int.toNat_natCast,hw1,hdd,cond_true,show (0:Int).toNat = 0 from rfl,show (1:Int).toNat = 1 from rfl]
  refine ⟨?_,by first | rfl | trivial⟩
  and_intros
  all_goals first
   | (intro p hp; cases hp; done)
   | (intros; exact h)
   | (intros; exact hf)
   | (intros; simp only [List.length_cons,List.length_nil]; omega)
   | (intros; omega)
abbrev t_Z8 (p0:List (Int×Int×Int×Int×Int)) (p1:Int×Int×Int×Int×Int×Int×Int×Int×Int) (p2:Int):List (Int×Int)×Int := v_rmx p0 p1 p2
abbrev qre_Z8 (_p0:List (Int×Int×Int×Int×Int)) (_p1:Int×Int×Int×Int×Int×Int×Int×Int×Int) (p2:Int):List Prop := [0≤p2∧p2≤1]
theorem pp_Z8 (p0:List (Int×Int×Int×Int×Int)) (p1:Int×Int×Int×Int×Int×Int×Int×Int×Int) (p2:Int) (hq:∀ p∈qre_Z8 p0 p1 p2,p):∀ p∈pre_Z8 p0 p1 p2,p := by
 obtain ⟨h1,_⟩ := conj_of hq
 obtain ⟨m,rfl⟩ : ∃ m:Nat,p2 = m := ⟨p2.toNat,by omega⟩
 simp only [pre_Z8,fM,show ∀ (x:List (Int×Int×Int×Int×Int)) (y:Int×Int×Int×Int×Int×Int×Int×Int×Int),v_first [(v_cs x).2,v_ferr y]=v_rerr x y from fun _ _ => rfl]
 refine ⟨fun e => ?_,by simp⟩
 obtain ⟨s1,s2⟩ := v_rerr_ok (bne0' e)
 exact (l_Z8_0 p0 p1 m (by omega) s1 s2).1
theorem tt_Z8 (p0:List (Int×Int×Int×Int×Int)) (p1:Int×Int×Int×Int×Int×Int×Int×Int×Int) (p2:Int) (hq:∀ p∈qre_Z8 p0 p1 p2,p):s_Z8 p0 p1 p2 = t_Z8 p0 p1 p2 := by
 obtain ⟨h1,_⟩ := conj_of hq
 obtain ⟨m,rfl⟩ : ∃ m:Nat,p2 = m := ⟨p2.toNat,by omega⟩
 unfold s_Z8 t_Z8 v_rmx
 simp only [show ∀ (x:List (Int×Int×Int×Int×Int)) (y:Int×Int×Int×Int×Int×Int×Int×Int×Int),v_first [(v_cs x).2,v_ferr y]=v_rerr x y from fun _ _ => rfl]
 rcases int0 (v_rerr p0 p1) with ⟨z,e,_⟩ | ⟨z,e,_⟩ <;> rw [e]
 ·obtain ⟨s1,s2⟩ := v_rerr_ok z
  exact (l_Z8_0 p0 p1 m (by omega) s1 s2).2
 ·rfl

abbrev con_Z8:Con := ⟨P_Z8,R_Z8,fun x => qre_Z8 x.1 x.2.1 x.2.2,fun x => t_Z8 x.1 x.2.1 x.2.2⟩
theorem ok_Z8:ConOk Try.prog 81 con_Z8 := okG k_Z8 e_Z8 hC_Z8 fun x hx => tf_of (w_Z8_eq x.1 x.2.1 x.2.2 _) (d_Z8 x.1 x.2.1 x.2.2 _ (pp_Z8 x.1 x.2.1 x.2.2 hx) (tt_Z8 x.1 x.2.1 x.2.2 hx))
def C_Zx:Cons := [(81,[],con_Z8)]
theorem hC_Zx:ConsOk Try.prog C_Zx := cC ok_Z8 <| ConsOk.nil
def w_Zx (p0:(List (Int×(Int×(Int×(Int×Int)))))) (p1:(Int×(Int×(Int×(Int×(Int×(Int×(Int×(Int×Int))))))))) (K:((List (Int×Int))×Int)→Prop):Prop := (((zz0≤0) ∧(zz0≤1)) ∧(K (v_rmx p0 p1 zz0)))
theorem w_Zx_eq (p0:(List (Int×(Int×(Int×(Int×Int)))))) (p1:(Int×(Int×(Int×(Int×(Int×(Int×(Int×(Int×Int))))))))) (K:((List (Int×Int))×Int)→Prop):tfn F_Zx A_Zx C_Zx P_Zx R_Zx (p0,p1) K = w_Zx p0 p1 K := by kernel_rfl
def s_Zx (p0:(List (Int×(Int×(Int×(Int×Int)))))) (p1:(Int×(Int×(Int×(Int×(Int×(Int×(Int×(Int×Int))))))))):((List (Int×Int))×Int) := (v_rmx p0 p1 (0:Int))
abbrev pre_Zx (_p0:(List (Int×(Int×(Int×(Int×Int)))))) (_p1:(Int×(Int×(Int×(Int×(Int×(Int×(Int×(Int×Int))))))))):List Prop := []
theorem d_Zx (p0:(List (Int×(Int×(Int×(Int×Int)))))) (p1:(Int×(Int×(Int×(Int×(Int×(Int×(Int×(Int×Int))))))))) (K:((List (Int×Int))×Int)→Prop) (_hp:∀ p∈pre_Zx p0 p1,p) (h:K (s_Zx p0 p1)):w_Zx p0 p1 K := by
 unfold w_Zx
 unfold s_Zx at h
 exact ⟨(od rfl),h⟩
abbrev con_Zx:Con := ⟨P_Zx,R_Zx,fun x => pre_Zx x.1 x.2,fun x => s_Zx x.1 x.2⟩
theorem ok_Zx:ConOk Try.prog 27 con_Zx := okG k_Zx e_Zx hC_Zx fun x hx => tf_of (w_Zx_eq x.1 x.2 _) (d_Zx x.1 x.2 _ hx rfl)
def C_Zr:Cons := [(81,[],con_Z8)]
theorem hC_Zr:ConsOk Try.prog C_Zr := cC ok_Z8 <| ConsOk.nil
def w_Zr (p0:(List (Int×(Int×(Int×(Int×Int)))))) (p1:(Int×(Int×(Int×(Int×(Int×(Int×(Int×(Int×Int))))))))) (K:((List (Int×Int))×Int)→Prop):Prop := (((zz0≤1) ∧(zz1≤1)) ∧(K (v_rmx p0 p1 zz1)))
theorem w_Zr_eq (p0:(List (Int×(Int×(Int×(Int×Int)))))) (p1:(Int×(Int×(Int×(Int×(Int×(Int×(Int×(Int×Int))))))))) (K:((List (Int×Int))×Int)→Prop):tfn F_Zr A_Zr C_Zr P_Zr R_Zr (p0,p1) K = w_Zr p0 p1 K := by kernel_rfl
def s_Zr (p0:(List (Int×(Int×(Int×(Int×Int)))))) (p1:(Int×(Int×(Int×(Int×(Int×(Int×(Int×(Int×Int))))))))):((List (Int×Int))×Int) := (v_rmx p0 p1 (1:Int))
abbrev pre_Zr (_p0:(List (Int×(Int×(Int×(Int×Int)))))) (_p1:(Int×(Int×(Int×(Int×(Int×(Int×(Int×(Int×Int))))))))):List Prop := []
theorem d_Zr (p0:(List (Int×(Int×(Int×(Int×Int)))))) (p1:(Int×(Int×(Int×(Int×(Int×(Int×(Int×(Int×Int))))))))) (K:((List (Int×Int))×Int)→Prop) (_hp:∀ p∈pre_Zr p0 p1,p) (h:K (s_Zr p0 p1)):w_Zr p0 p1 K := by
 unfold w_Zr
 unfold s_Zr at h
 exact ⟨(od rfl),h⟩
abbrev con_Zr:Con := ⟨P_Zr,R_Zr,fun x => pre_Zr x.1 x.2,fun x => s_Zr x.1 x.2⟩
theorem ok_Zr:ConOk Try.prog 28 con_Zr := okG k_Zr e_Zr hC_Zr fun x hx => tf_of (w_Zr_eq x.1 x.2 _) (d_Zr x.1 x.2 _ hx rfl)
def C_Zo:Cons := []
theorem hC_Zo:ConsOk Try.prog C_Zo := ConsOk.nil
def w_Zo (p0:gF) (K:(List Int)→Prop):Prop := (((((List.length ([]:List Int)) + p0.length) * 8)≤140737488355328) ∧(K (([]:List Int) ++ p0)))
theorem w_Zo_eq (p0:gF) (K:(List Int)→Prop):tfnO F_Zo A_Zo C_Zo P_Zo E_Zo p0 K = w_Zo p0 K := by kernel_rfl
def s_Zo (p0:gF):(List Int) := (([]:List Int) ++ p0)
abbrev pre_Zo (p0:gF):List Prop := [((((List.length ([]:List Int)) + p0.length) * 8)≤140737488355328)]
theorem d_Zo (p0:gF) (K:(List Int)→Prop) (hp:∀ p∈pre_Zo p0,p) (h:K (s_Zo p0)):w_Zo p0 K := by
 unfold w_Zo
 unfold s_Zo at h
 obtain ⟨hp0,_⟩ := conj_of hp
 exact ⟨(hp0),h⟩
abbrev t_Zo (p0:gF):List Int := p0
abbrev qre_Zo (p0:gF):List Prop := [p0.length≤1000000]
theorem pp_Zo (p0:gF) (hq:∀ p∈qre_Zo p0,p):∀ p∈pre_Zo p0,p := by
 simp only [pre_Zo,fM]
 have := (conj_of hq).1
 exact ⟨by simp; omega,by simp⟩
theorem tt_Zo (p0:gF) (_hq:∀ p∈qre_Zo p0,p):s_Zo p0 = t_Zo p0 := by
 rfl

abbrev con_Zo:Con := ⟨P_Zo,[.one (.sl E_Zo)],fun x => qre_Zo x,fun x => t_Zo x⟩
theorem ok_Zo:ConOOk Try.prog 46 con_Zo := conO_tf (e := E_Zo) (ps := P_Zo) k_Zo e_Zo hC_Zo (fun x hx => tfo_of (w_Zo_eq x (fun z => z = t_Zo x)) (d_Zo x (fun z => z = t_Zo x) (pp_Zo x hx) (tt_Zo x hx)))
def C_Zd:Cons := [(17,[],con_Z4)]
theorem hC_Zd:ConsOk Try.prog C_Zd := cC ok_Z4 <| ConsOk.nil
def w_Zd (p0:(List (Int×(Int×(Int×(Int×Int)))))) (p1:gF) (K:Int→Prop):Prop := (((((p1.length:Int) == 0)=true) →(K (10:Int))) ∧((((p1.length:Int) == 0)=false) →(∃ n0,(loopP (fun (y1:Int) k2 => ((((decide (y1 < (p1.length:Int)))=true) →((zz0≤y1) ∧((y1 < (p1.length:Int)) ∧((((!(s_Z4 (p1.getD y1.toNat zz0) zz0 (IntKind.i64.wrap ((p0.length:Int) - 1))))=true) →(K (2:Int))) ∧(((!(s_Z4 (p1.getD y1.toNat zz0) zz0 (IntKind.i64.wrap ((p0.length:Int) - 1))))=false) →((((decide (y1 > 0))=true) →((decide (y1 > 0))=(decide (y1 > 0)))) ∧((((decide (y1 > 0))=true) →((decide (y1 > 0))=(decide (y1 > 0)))) ∧((((decide (y1 > 0))=true) →(zz0≤y1)) ∧((((decide (y1 > 0))=true) →(y1 < (p1.length:Int))) ∧((((decide (y1 > 0))=true) →((decide (y1 > 0))=(decide (y1 > 0)))) ∧((((decide (y1 > 0))=true) →((decide (y1 > 0))=(decide (y1 > 0)))) ∧((((decide (y1 > 0))=true) →((decide (y1 > 0))=(decide (y1 > 0)))) ∧((((decide (y1 > 0))=true) →((decide (y1 > 0))=(decide (y1 > 0)))) ∧((((decide (y1 > 0))=true) →(zz0≤(IntKind.i64.wrap (y1 - 1)))) ∧((((decide (y1 > 0))=true) →((IntKind.i64.wrap (y1 - 1)) < (p1.length:Int))) ∧((((decide (y1 > 0))=true) →((decide (y1 > 0))=(decide (y1 > 0)))) ∧((((decide (y1 > 0))=true) →((decide (y1 > 0))=(decide (y1 > 0)))) ∧((((decide (y1 > 0))=true) →((decide (y1 > 0))=(decide (y1 > 0)))) ∧(((decide (y1 > 0))=(decide (y1 > 0))) ∧((((cond (decide (y1 > 0)) (decide ((p1.getD y1.toNat zz0)≤(p1.getD (Int.toNat (IntKind.i64.wrap (y1 - 1))) zz0))) false)=true) →(K (9:Int))) ∧(((cond (decide (y1 > 0)) (decide ((p1.getD y1.toNat zz0)≤(p1.getD (Int.toNat (IntKind.i64.wrap (y1 - 1))) zz0))) false)=false) →(k2 (IntKind.i64.wrap (y1 + 1)))))))))))))))))))))))) ∧(((decide (y1 < (p1.length:Int)))=false) →(K zz0)))) n0 zz0))))
theorem w_Zd_eq (p0:(List (Int×(Int×(Int×(Int×Int)))))) (p1:gF) (K:Int→Prop):tfn F_Zd A_Zd C_Zd P_Zd R_Zd (p0,p1) K = w_Zd p0 p1 K := by kernel_rfl
def st_Zd_0 (p0:(List (Int×(Int×(Int×(Int×Int)))))) (p1:gF) (y1:Int):Int ⊕ Int := (cond (decide (y1 < (p1.length:Int))) (cond (!(s_Z4 (p1.getD y1.toNat (0:Int)) (0:Int) (IntKind.i64.wrap ((p0.length:Int) - 1)))) (Sum.inr (2:Int)) (cond (cond (decide (y1 > 0)) (decide ((p1.getD y1.toNat (0:Int))≤(p1.getD (Int.toNat (IntKind.i64.wrap (y1 - 1))) (0:Int)))) false) (Sum.inr (9:Int)) (Sum.inl (IntKind.i64.wrap (y1 + 1))))) (Sum.inr (0:Int)))
abbrev sp_Zd_0 (p0:(List (Int×(Int×(Int×(Int×Int)))))) (p1:gF) (y1:Int):List Prop := [(((decide (y1 < (p1.length:Int)))=true)→((0:Int)≤y1)),(((decide (y1 < (p1.length:Int)))=true)→(y1 < (p1.length:Int))),(((decide (y1 < (p1.length:Int)))=true)→(((!(s_Z4 (p1.getD y1.toNat (0:Int)) (0:Int) (IntKind.i64.wrap ((p0.length:Int) - 1))))=false)→(((decide (y1 > 0))=true)→((0:Int)≤y1)))),(((decide (y1 < (p1.length:Int)))=true)→(((!(s_Z4 (p1.getD y1.toNat (0:Int)) (0:Int) (IntKind.i64.wrap ((p0.length:Int) - 1))))=false)→(((decide (y1 > 0))=true)→(y1 < (p1.length:Int))))),(((decide (y1 < (p1.length:Int)))=true)→(((!(s_Z4 (p1.getD y1.toNat (0:Int)) (0:Int) (IntKind.i64.wrap ((p0.length:Int) - 1))))=false)→(((decide (y1 > 0))=true)→((0:Int)≤(IntKind.i64.wrap (y1 - 1)))))),(((decide (y1 < (p1.length:Int)))=true)→(((!(s_Z4 (p1.getD y1.toNat (0:Int)) (0:Int) (IntKind.i64.wrap ((p0.length:Int) - 1))))=false)→(((decide (y1 > 0))=true)→((IntKind.i64.wrap (y1 - 1)) < (p1.length:Int)))))]
def s_Zd (p0:(List (Int×(Int×(Int×(Int×Int)))))) (p1:gF):Int := (cond ((p1.length:Int) == 0) (10:Int) (lpv (0:Int) (st_Zd_0 p0 p1) (0:Int)))
abbrev pre_Zd (p0:(List (Int×(Int×(Int×(Int×Int)))))) (p1:gF):List Prop := [((((p1.length:Int) == 0)=false)→(OkL (st_Zd_0 p0 p1) (sp_Zd_0 p0 p1) (0:Int)))]
theorem d_Zd (p0:(List (Int×(Int×(Int×(Int×Int)))))) (p1:gF) (K:Int→Prop) (hp:∀ p∈pre_Zd p0 p1,p) (h:K (s_Zd p0 p1)):w_Zd p0 p1 K := by
 unfold w_Zd
 unfold s_Zd at h
 obtain ⟨hp0,_⟩ := conj_of hp
 exact (br' h (fun e0 h => h)
  (fun e0 h => (loop_gen (hp0 e0) h (fun y1 k1 hp h => by
 unfold st_Zd_0 at h; obtain ⟨hp0,hp1,hp2,hp3,hp4,hp5,_⟩ := conj_of hp
 exact (br' h (fun e2 h => ⟨(hp0 e2),(hp1 e2),(br' h (fun e3 h => h)
  (fun e3 h => ⟨rf,rf,(hp2 e2 e3),(hp3 e2 e3),rf,rf,rf,rf,(hp4 e2 e3),(hp5 e2 e3),rf,rf,rf,rfl,(br' h (fun e4 h => h)
  (fun e4 h => h))⟩))⟩)
  (fun e2 h => h))))))
/-- What is wrong with legs,after one; with all. -/
def v_lgs (n:Int):Int→List Int→Int
 | _,[] => 0
 | a,x :: r => cond (s_Z4 x 0 (n - 1)) (cond (decide (x > a)) (v_lgs n x r) 9) 2
theorem v_lgs_cons (n a x:Int) (r:gF):v_lgs n a (x :: r)=cond (s_Z4 x 0 (n - 1)) (cond (decide (x > a)) (v_lgs n x r) 9) 2 := rfl
theorem v_lgs_app (n:Int):∀ (l:gF) (a:Int) (r:gF),v_lgs n a (l ++ r)=cond (v_lgs n a l != 0) (v_lgs n a l) (v_lgs n (l.getLastD a) r)
 | [],_,_ => rfl
 | x :: l,a,r => by
  have ih := v_lgs_app n l x r
  rw [List.getLastD_cons,List.cons_append,v_lgs_cons,v_lgs_cons]
  cases s_Z4 x 0 (n - 1)
  ·rfl
  ·cases decide (x > a)
   ·rfl
   ·simp only [cond_true]; exact ih
theorem v_lgs_ok (n:Int):∀ (l:gF) (a:Int),v_lgs n a l = 0→∀ i,i < l.length→(0≤l.getD i 0∧l.getD i 0≤n - 1)∧(0 < i→l.getD (i - 1) 0 < l.getD i 0)∧(i = 0→a < l.getD i 0)
 | [],_,_,i,hi => by cases hi
 | x :: l,a,h,i,hi => by
  rw [v_lgs_cons] at h
  cases c:s_Z4 x 0 (n - 1) <;> rw [c] at h
  ·cases h
  ·cases d:decide (x > a) <;> rw [d] at h
   ·cases h
   ·have hx := tx_within.1 c
    have hd := of_decide_eq_true d
    have ih := v_lgs_ok n l x h
    cases i with
    | zero => exact ⟨hx,fun h => by omega,fun _ => hd⟩
    | succ k =>
     obtain ⟨i1,i2,i3⟩ := ih k (by simpa using hi)
     refine ⟨i1,fun _ => ?_,fun h => by omega⟩
     cases k with
     | zero => exact i3 rfl
     | succ m => exact i2 (by omega)
theorem v_take_last {l:List Int} {j:Nat} {a:Int} (h0:0 < j) (hj:j≤l.length):(l.take j).getLastD a = l.getD (j - 1) 0 := by
 obtain ⟨k,rfl⟩ : ∃ k,j = k + 1 := ⟨j - 1,by omega⟩
 rw [List.take_add_one,List.getElem?_eq_getElem (by omega),Option.toList_some,List.getLastD_concat,Nat.add_sub_cancel,List.getD_eq_getElem?_getD,List.getElem?_eq_getElem (by omega)]; rfl
theorem v_take_snoc {l:List Int} {j:Nat} (hj:j < l.length):l.take (j + 1)=l.take j ++ [l.getD j 0] := by
 rw [List.take_add_one,List.getElem?_eq_getElem hj,List.getD_eq_getElem?_getD,List.getElem?_eq_getElem hj]; rfl
theorem v_split {l:List Int} {j:Nat} (hj:j < l.length):l = l.take j ++ l.getD j 0 :: l.drop (j + 1) := by
 have:l.getD j 0 :: l.drop (j + 1)=l.drop j := by
  rw [List.drop_eq_getElem_cons hj,List.getD_eq_getElem?_getD,List.getElem?_eq_getElem hj]; rfl
 rw [this,List.take_append_drop]
def v_lger (n:Int) (g:gF):Int := cond ((g.length:Int) == 0) 10 (v_lgs n (-1) g)
theorem l_Zd_0 (p0:List (Int×Int×Int×Int×Int)) (p1:gF) (h1:lenOk p0) (h2:lenOk p1):OkL (st_Zd_0 p0 p1) (sp_Zd_0 p0 p1) 0∧lpv 0 (st_Zd_0 p0 p1) 0 = v_lgs p0.length (-1) p1 := by
 unfold lenOk at h1 h2
 have main := @go_is Int PUnit Int Int 0 (st_Zd_0 p0 p1) (sp_Zd_0 p0 p1) (fun i _ => i) p1 0 (fun i _ x => cond (!(s_Z4 x 0 ((p0.length:Int) - 1))) (.inr 2) (cond (cond (decide (i > 0)) (decide (x≤p1.getD (i - 1).toNat 0)) false) (.inr 9) (.inl ⟨⟩))) (fun _ => 0) (fun _ _ => True) h2 ?_ ?_ ⟨⟩ trivial
 ·refine ⟨main.1,main.2.trans ?_⟩
  have key:∀ (m:Nat) (j:Nat),m + j = p1.length→v_lgs p0.length (-1) (p1.take j)=0→v_go (fun i (_:PUnit) x => cond (!(s_Z4 x 0 ((p0.length:Int) - 1))) (.inr 2) (cond (cond (decide (i > 0)) (decide (x≤p1.getD (i - 1).toNat 0)) false) (.inr 9) (.inl ⟨⟩))) (fun _ => 0) (j:Int) ⟨⟩ (p1.drop j)=v_lgs p0.length (-1) p1 := by
   intro m
   induction m with
   | zero =>
    intro j hj e
    rw [List.drop_eq_nil_of_le (by omega),← List.take_of_length_le (l := p1) (i := j) (by omega),e]; rfl
   | succ m ih =>
    intro j hj e
    have hjl:j < p1.length := by omega
    have hdr:p1.drop j = p1.getD j 0 :: p1.drop (j + 1) := by
     rw [List.drop_eq_getElem_cons hjl,List.getD_eq_getElem?_getD,List.getElem?_eq_getElem hjl]; rfl
    have hsp:v_lgs p0.length (-1) p1 = v_lgs p0.length ((p1.take j).getLastD (-1)) (p1.getD j 0 :: p1.drop (j + 1)) := by
     conv => lhs; rw [v_split hjl]
     rw [v_lgs_app,e]; rfl
    have hsn:v_lgs p0.length (-1) (p1.take (j + 1))=v_lgs p0.length ((p1.take j).getLastD (-1)) [p1.getD j 0] := by
     rw [v_take_snoc hjl,v_lgs_app,e]; rfl
    rw [hdr,hsp]
    unfold v_go
    rw [v_lgs_cons] at hsn ⊢
    cases c:s_Z4 (p1.getD j 0) 0 ((p0.length:Int) - 1)
    ·rfl
    ·rw [c] at hsn
     have hc := tx_within.1 c
     have hlast:cond (decide ((j:Int) > 0)) (decide (p1.getD j 0≤p1.getD ((j:Int) - 1).toNat 0)) false = !(decide (p1.getD j 0 > (p1.take j).getLastD (-1))) := by
      rcases Nat.eq_zero_or_pos j with g | g
      ·subst g
       rw [List.take_zero]
       show false = !(decide (p1.getD 0 0 > -1))
       rw [decide_eq_true (by omega)]; rfl
      ·rw [decide_eq_true (show (j:Int) > 0 by omega),v_take_last g (by omega),show ((j:Int) - 1).toNat = j - 1 by omega,cond_true,Bool.eq_iff_iff,Bool.not_eq_true',decide_eq_true_eq,decide_eq_false_iff_not]; omega
     rw [hlast]
     cases d:decide (p1.getD j 0 > (p1.take j).getLastD (-1)) <;> rw [d] at hsn
     ·rfl
     ·have hj1 := ih (j + 1) (by omega) (hsn.trans rfl)
      rw [hsp,v_lgs_cons,c,d] at hj1
      exact hj1
  exact key p1.length 0 (by omega) rfl
 ·rintro t _
  simp only [sp_Zd_0,st_Zd_0,fM,decide_eq_false (Int.lt_irrefl (p1.length:Int)),cond_false]
  refine ⟨?_,by first | rfl | trivial⟩
  and_intros
  all_goals first
   | (intro h; cases h; done)
   | (intro p hp; cases hp)
 ·rintro j t hj _
  have hw1:IntKind.i64.wrap ((j:Int) + 1)=((j + 1:Nat):Int) := wrap_id (by omega) (by omega)
  have hw2:IntKind.i64.wrap ((j:Int) - 1)=(j:Int) - 1 := wrap_id (by omega) (by omega)
  have hw3:IntKind.i64.wrap ((p0.length:Int) - 1)=(p0.length:Int) - 1 := wrap_id (by omega) (by omega)
  have hd:decide ((j:Int) < (p1.length:Int))=true := decide_eq_true (by omega)
  simp only [sp_Zd_0,st_Zd_0,fM,hd,cond_true,Int.toNat_natCast,hw1,hw2,hw3]
  refine ⟨?_,?_,fun _ _ => trivial⟩
  ·and_intros
   all_goals first
    | (intro p hp; cases hp; done)
    | (intro _ _ q; have := of_decide_eq_true q; omega)
    | (intros; omega)
  ·cases !(s_Z4 (p1.getD j 0) 0 ((p0.length:Int) - 1))
   ·cases cond (decide ((j:Int) > 0)) (decide (p1.getD j 0≤p1.getD ((j:Int) - 1).toNat 0)) false <;> rfl
   ·rfl
abbrev t_Zd (p0:List (Int×Int×Int×Int×Int)) (p1:gF):Int := v_lger p0.length p1
abbrev qre_Zd (p0:List (Int×Int×Int×Int×Int)) (p1:gF):List Prop := [lenOk p0,lenOk p1]
theorem pp_Zd (p0:List (Int×Int×Int×Int×Int)) (p1:gF) (hq:∀ p∈qre_Zd p0 p1,p):∀ p∈pre_Zd p0 p1,p := by
 obtain ⟨h1,h2,_⟩ := conj_of hq
 simp only [pre_Zd,fM]
 exact ⟨fun _ => (l_Zd_0 p0 p1 h1 h2).1,by simp⟩
theorem tt_Zd (p0:List (Int×Int×Int×Int×Int)) (p1:gF) (hq:∀ p∈qre_Zd p0 p1,p):s_Zd p0 p1 = t_Zd p0 p1 := by
 obtain ⟨h1,h2,_⟩ := conj_of hq
 unfold s_Zd t_Zd v_lger
 rw [(l_Zd_0 p0 p1 h1 h2).2]

abbrev con_Zd:Con := ⟨P_Zd,R_Zd,fun x => qre_Zd x.1 x.2,fun x => t_Zd x.1 x.2⟩
theorem ok_Zd:ConOk Try.prog 59 con_Zd := okG k_Zd e_Zd hC_Zd fun x hx => tf_of (w_Zd_eq x.1 x.2 _) (d_Zd x.1 x.2 _ (pp_Zd x.1 x.2 hx) (tt_Zd x.1 x.2 hx))
end Go.Proofs.Ytdkhhafmidokmaa
