/- What the functions that MagnetInvariant reaches compute: contracts, each function once. No condition. -/
import Derived.Test.YtdkhhafmidokmaaLayB
import Derived.Test.YtdkhhafmidokmaaAwMMagnetInvariant
import Derived.KernelRfl
namespace Go.Proofs.Ytdkhhafmidokmaa
open Go Go.Mx
set_option maxRecDepth 100000
set_option maxHeartbeats 4000000
abbrev gF:=List Int
abbrev gG:=Int×Int
abbrev gA:=List (List Int×List Int)
abbrev gB:=List (Int×Int×Int)
abbrev gC:=List (Int×Int)
abbrev gE:=Int×List Int
abbrev gD:=(Int×List Int)×(Int×List Int)
theorem fM.{u} {α:Type u} {p:α→Prop} {a:α} {l:List α}:(∀ x∈a::l,p x) ↔ p a ∧ ∀ x∈l,p x := List.forall_mem_cons
theorem cC {P:Program} {f:FuncId} {ids:List FuncId} {c:Con} {C:Cons} (h:ConOk P f c) (hC:ConsOk P C) (hm:isMark ids=false := by rfl):ConsOk P ((f,ids,c)::C) := ConsOk.cons h hC hm
theorem okG {P:Program} {f:FuncId} {F:TFn} {A:Nat→Ty} {C:Cons} {ps rs:List PSh} {pre:(tyPs ps).den→List Prop} {s:(tyPs ps).den→(tyPs rs).den} (k:callable P f=true) (e:cFn P f=some F.erase) (hC:ConsOk P C) (h:∀ x,(∀ p∈pre x,p)→Tf F A C ps rs x (fun z => z=s x)):ConOk P f ⟨ps,rs,pre,s⟩ := ⟨k,fun x hx => ret_tf e hC (h x hx)⟩
abbrev wi (n:Int):Int := IntKind.i64.wrap n
abbrev zz0:Int := 0
abbrev zz1:Int := 1
abbrev zz2:Int := 2
abbrev zz3:Int := 3
theorem od {p:Prop} [Decidable p] (h:decide p = true):p := of_decide_eq_true h
theorem nof {p:Prop} (h:false = true):p := Bool.noConfusion h
theorem rf {p:Prop} {α:Sort _} {a:α} (_:p):a = a := rfl

def v_ceil (a b:Int):Int := -((-a) / b)
abbrev lenTab:ByteArray := ⟨#[0,1,2,2,3,3,3,3,4,4,4,4,4,4,4,4,5,5,5,5,5,5,5,5,5,5,5,5,5,5,5,5,6,6,6,6,6,6,6,6,6,6,6,6,6,6,6,6,6,6,6,6,6,6,6,6,6,6,6,6,6,6,6,6,7,7,7,7,7,7,7,7,7,7,7,7,7,7,7,7,7,7,7,7,7,7,7,7,7,7,7,7,7,7,7,7,7,7,7,7,7,7,7,7,7,7,7,7,7,7,7,7,7,7,7,7,7,7,7,7,7,7,7,7,7,7,7,7,8,8,8,8,8,8,8,8,8,8,8,8,8,8,8,8,8,8,8,8,8,8,8,8,8,8,8,8,8,8,8,8,8,8,8,8,8,8,8,8,8,8,8,8,8,8,8,8,8,8,8,8,8,8,8,8,8,8,8,8,8,8,8,8,8,8,8,8,8,8,8,8,8,8,8,8,8,8,8,8,8,8,8,8,8,8,8,8,8,8,8,8,8,8,8,8,8,8,8,8,8,8,8,8,8,8,8,8,8,8,8,8,8,8,8,8,8,8,8,8,8,8,8,8,8,8,8,8]⟩
def C_Z1e:Cons := []
theorem hC_Z1e:ConsOk Try.prog C_Z1e := ConsOk.nil
def w_Z1e (p0:(List (Int×(Int×(Int×(Int×Int)))))) (K:Bool→Prop):Prop := (K (decide ((p0.length:Int)≤22)))
theorem w_Z1e_eq (p0:(List (Int×(Int×(Int×(Int×Int)))))) (K:Bool→Prop):tfn F_Z1e A_Z1e C_Z1e P_Z1e R_Z1e p0 K = w_Z1e p0 K := by kernel_rfl
def s_Z1e (p0:(List (Int×(Int×(Int×(Int×Int)))))):Bool := (decide ((p0.length:Int)≤22))
abbrev pre_Z1e (_p0:(List (Int×(Int×(Int×(Int×Int)))))):List Prop := []
theorem d_Z1e (p0:(List (Int×(Int×(Int×(Int×Int)))))) (K:Bool→Prop) (_hp:∀ p∈pre_Z1e p0,p) (h:K (s_Z1e p0)):w_Z1e p0 K := by
 unfold w_Z1e
 unfold s_Z1e at h
 exact h
abbrev con_Z1e:Con := ⟨P_Z1e,R_Z1e,fun x => pre_Z1e x,fun x => s_Z1e x⟩
theorem ok_Z1e:ConOk Try.prog 20 con_Z1e := okG k_Z1e e_Z1e hC_Z1e fun x hx => tf_of (w_Z1e_eq x _) (d_Z1e x _ hx rfl)
def C_Z3:Cons := []
theorem hC_Z3:ConsOk Try.prog C_Z3 := ConsOk.nil
def w_Z3 (p0:Int) (p1:Int) (p2:Int) (K:Bool→Prop):Prop := ((((decide (p1≤p0))=true) →((decide (p1≤p0))=(decide (p1≤p0)))) ∧((((decide (p1≤p0))=true) →((decide (p1≤p0))=(decide (p1≤p0)))) ∧(((decide (p1≤p0))=(decide (p1≤p0))) ∧(K (cond (decide (p1≤p0)) (decide (p0≤p2)) false)))))
theorem w_Z3_eq (p0:Int) (p1:Int) (p2:Int) (K:Bool→Prop):tfn F_Z3 A_Z3 C_Z3 P_Z3 R_Z3 (p0,p1,p2) K = w_Z3 p0 p1 p2 K := by kernel_rfl
def s_Z3 (p0:Int) (p1:Int) (p2:Int):Bool := (cond (decide (p1≤p0)) (decide (p0≤p2)) false)
abbrev pre_Z3 (_p0:Int) (_p1:Int) (_p2:Int):List Prop := []
theorem d_Z3 (p0:Int) (p1:Int) (p2:Int) (K:Bool→Prop) (_hp:∀ p∈pre_Z3 p0 p1 p2,p) (h:K (s_Z3 p0 p1 p2)):w_Z3 p0 p1 p2 K := by
 unfold w_Z3
 unfold s_Z3 at h
 exact ⟨rf,rf,rfl,h⟩
abbrev con_Z3:Con := ⟨P_Z3,R_Z3,fun x => pre_Z3 x.1 x.2.1 x.2.2,fun x => s_Z3 x.1 x.2.1 x.2.2⟩
theorem ok_Z3:ConOk Try.prog 17 con_Z3 := okG k_Z3 e_Z3 hC_Z3 fun x hx => tf_of (w_Z3_eq x.1 x.2.1 x.2.2 _) (d_Z3 x.1 x.2.1 x.2.2 _ hx rfl)
theorem tx_within {n lo hi:Int}:s_Z3 n lo hi = true ↔ lo≤n∧n≤hi := by unfold s_Z3; simp
def C_Z7:Cons := []
theorem hC_Z7:ConsOk Try.prog C_Z7 := ConsOk.nil
def w_Z7 (p0:Int) (p1:Int) (p2:Int) (K:Bool→Prop):Prop := ((((decide (p1≤p0))=true) →((decide (p1≤p0))=(decide (p1≤p0)))) ∧((((decide (p1≤p0))=true) →((decide (p1≤p0))=(decide (p1≤p0)))) ∧(((decide (p1≤p0))=(decide (p1≤p0))) ∧(K (cond (decide (p1≤p0)) (decide (p0≤p2)) false)))))
theorem w_Z7_eq (p0:Int) (p1:Int) (p2:Int) (K:Bool→Prop):tfn F_Z7 A_Z7 C_Z7 P_Z7 R_Z7 (p0,p1,p2) K = w_Z7 p0 p1 p2 K := by kernel_rfl
def s_Z7 (p0:Int) (p1:Int) (p2:Int):Bool := (cond (decide (p1≤p0)) (decide (p0≤p2)) false)
abbrev pre_Z7 (_p0:Int) (_p1:Int) (_p2:Int):List Prop := []
theorem d_Z7 (p0:Int) (p1:Int) (p2:Int) (K:Bool→Prop) (_hp:∀ p∈pre_Z7 p0 p1 p2,p) (h:K (s_Z7 p0 p1 p2)):w_Z7 p0 p1 p2 K := by
 unfold w_Z7
 unfold s_Z7 at h
 exact ⟨rf,rf,rfl,h⟩
abbrev con_Z7:Con := ⟨P_Z7,R_Z7,fun x => pre_Z7 x.1 x.2.1 x.2.2,fun x => s_Z7 x.1 x.2.1 x.2.2⟩
theorem ok_Z7:ConOk Try.prog 86 con_Z7 := okG k_Z7 e_Z7 hC_Z7 fun x hx => tf_of (w_Z7_eq x.1 x.2.1 x.2.2 _) (d_Z7 x.1 x.2.1 x.2.2 _ hx rfl)
theorem tx_withinG {n lo hi:Int}:s_Z7 n lo hi = s_Z3 n lo hi := rfl
def C_Z1b:Cons := [(17,[],con_Z3)]
theorem hC_Z1b:ConsOk Try.prog C_Z1b := cC ok_Z3 <| ConsOk.nil
def w_Z1b (p0:Int) (K:Bool→Prop):Prop := (K (s_Z3 p0 zz0 (1000000000000:Int)))
theorem w_Z1b_eq (p0:Int) (K:Bool→Prop):tfn F_Z1b A_Z1b C_Z1b P_Z1b R_Z1b p0 K = w_Z1b p0 K := by kernel_rfl
def s_Z1b (p0:Int):Bool := (s_Z3 p0 (0:Int) (1000000000000:Int))
abbrev pre_Z1b (_p0:Int):List Prop := []
theorem d_Z1b (p0:Int) (K:Bool→Prop) (_hp:∀ p∈pre_Z1b p0,p) (h:K (s_Z1b p0)):w_Z1b p0 K := by
 unfold w_Z1b
 unfold s_Z1b at h
 exact h
abbrev con_Z1b:Con := ⟨P_Z1b,R_Z1b,fun x => pre_Z1b x,fun x => s_Z1b x⟩
theorem ok_Z1b:ConOk Try.prog 88 con_Z1b := okG k_Z1b e_Z1b hC_Z1b fun x hx => tf_of (w_Z1b_eq x _) (d_Z1b x _ hx rfl)
def C_Z1c:Cons := [(17,[],con_Z3)]
theorem hC_Z1c:ConsOk Try.prog C_Z1c := cC ok_Z3 <| ConsOk.nil
def w_Z1c (p0:Int) (K:Bool→Prop):Prop := (K (s_Z3 p0 (-10:Int) (10:Int)))
theorem w_Z1c_eq (p0:Int) (K:Bool→Prop):tfn F_Z1c A_Z1c C_Z1c P_Z1c R_Z1c p0 K = w_Z1c p0 K := by kernel_rfl
def s_Z1c (p0:Int):Bool := (s_Z3 p0 (-10:Int) (10:Int))
abbrev pre_Z1c (_p0:Int):List Prop := []
theorem d_Z1c (p0:Int) (K:Bool→Prop) (_hp:∀ p∈pre_Z1c p0,p) (h:K (s_Z1c p0)):w_Z1c p0 K := by
 unfold w_Z1c
 unfold s_Z1c at h
 exact h
abbrev con_Z1c:Con := ⟨P_Z1c,R_Z1c,fun x => pre_Z1c x,fun x => s_Z1c x⟩
theorem ok_Z1c:ConOk Try.prog 89 con_Z1c := okG k_Z1c e_Z1c hC_Z1c fun x hx => tf_of (w_Z1c_eq x _) (d_Z1c x _ hx rfl)
def C_Z1d:Cons := [(17,[],con_Z3)]
theorem hC_Z1d:ConsOk Try.prog C_Z1d := cC ok_Z3 <| ConsOk.nil
def w_Z1d (p0:Int) (K:Bool→Prop):Prop := (K (s_Z3 p0 (-100000:Int) (100000:Int)))
theorem w_Z1d_eq (p0:Int) (K:Bool→Prop):tfn F_Z1d A_Z1d C_Z1d P_Z1d R_Z1d p0 K = w_Z1d p0 K := by kernel_rfl
def s_Z1d (p0:Int):Bool := (s_Z3 p0 (-100000:Int) (100000:Int))
abbrev pre_Z1d (_p0:Int):List Prop := []
theorem d_Z1d (p0:Int) (K:Bool→Prop) (_hp:∀ p∈pre_Z1d p0,p) (h:K (s_Z1d p0)):w_Z1d p0 K := by
 unfold w_Z1d
 unfold s_Z1d at h
 exact h
abbrev con_Z1d:Con := ⟨P_Z1d,R_Z1d,fun x => pre_Z1d x,fun x => s_Z1d x⟩
theorem ok_Z1d:ConOk Try.prog 90 con_Z1d := okG k_Z1d e_Z1d hC_Z1d fun x hx => tf_of (w_Z1d_eq x _) (d_Z1d x _ hx rfl)
def C_Z6:Cons := [(88,[],con_Z1b),(89,[],con_Z1c),(90,[],con_Z1d)]
theorem hC_Z6:ConsOk Try.prog C_Z6 := cC ok_Z1b <| cC ok_Z1c <| cC ok_Z1d <| ConsOk.nil
abbrev q3_Z6 (p0:(List (Int×(Int×(Int×(Int×Int)))))) (y1:Int) := (!(s_Z3 (p0.getD y1.toNat (zz0,(zz0,(zz0,(zz0,zz0))))).1 zz0 (1000000000000:Int)))
abbrev q1_Z6 (p0:(List (Int×(Int×(Int×(Int×Int)))))) (y1:Int) := (cond (q3_Z6 p0 y1) true (!(s_Z3 (p0.getD y1.toNat (zz0,(zz0,(zz0,(zz0,zz0))))).2.1 (-10:Int) (10:Int))))
abbrev q0_Z6 (p0:(List (Int×(Int×(Int×(Int×Int)))))) (y1:Int) := (cond (q1_Z6 p0 y1) true (!(s_Z3 (p0.getD y1.toNat (zz0,(zz0,(zz0,(zz0,zz0))))).2.2.1 (-10:Int) (10:Int))))
abbrev q2_Z6 (p0:(List (Int×(Int×(Int×(Int×Int)))))) (y1:Int) := (cond (q0_Z6 p0 y1) true (!(s_Z3 (p0.getD y1.toNat (zz0,(zz0,(zz0,(zz0,zz0))))).2.2.2.1 (-10:Int) (10:Int))))
def w_Z6 (p0:(List (Int×(Int×(Int×(Int×Int)))))) (K:(Int×Int)→Prop):Prop := (((((p0.length:Int) == zz0)=true) →(K (zz0,(10:Int)))) ∧((((p0.length:Int) == zz0)=false) →((((decide ((p0.length:Int) > 20))=true) →(K (zz0,(8:Int)))) ∧(((decide ((p0.length:Int) > 20))=false) →(∃ n0,(loopP (fun (y1:Int) k2 => ((((decide (y1 < (p0.length:Int)))=true) →((zz0≤y1) ∧((y1 < (p0.length:Int)) ∧((((q3_Z6 p0 y1)=false) →((q3_Z6 p0 y1)=(q3_Z6 p0 y1))) ∧((((q3_Z6 p0 y1)=false) →((q3_Z6 p0 y1)=(q3_Z6 p0 y1))) ∧((((q3_Z6 p0 y1)=false) →((q3_Z6 p0 y1)=(q3_Z6 p0 y1))) ∧(((q3_Z6 p0 y1)=(q3_Z6 p0 y1)) ∧((((q1_Z6 p0 y1)=false) →((q1_Z6 p0 y1)=(q1_Z6 p0 y1))) ∧((((q1_Z6 p0 y1)=false) →((q1_Z6 p0 y1)=(q1_Z6 p0 y1))) ∧((((q1_Z6 p0 y1)=false) →((q1_Z6 p0 y1)=(q1_Z6 p0 y1))) ∧(((q1_Z6 p0 y1)=(q1_Z6 p0 y1)) ∧((((q0_Z6 p0 y1)=false) →((q0_Z6 p0 y1)=(q0_Z6 p0 y1))) ∧((((q0_Z6 p0 y1)=false) →((q0_Z6 p0 y1)=(q0_Z6 p0 y1))) ∧((((q0_Z6 p0 y1)=false) →((q0_Z6 p0 y1)=(q0_Z6 p0 y1))) ∧(((q0_Z6 p0 y1)=(q0_Z6 p0 y1)) ∧((((q2_Z6 p0 y1)=false) →((q2_Z6 p0 y1)=(q2_Z6 p0 y1))) ∧((((q2_Z6 p0 y1)=false) →((q2_Z6 p0 y1)=(q2_Z6 p0 y1))) ∧((((q2_Z6 p0 y1)=false) →((q2_Z6 p0 y1)=(q2_Z6 p0 y1))) ∧(((q2_Z6 p0 y1)=(q2_Z6 p0 y1)) ∧((((cond (q2_Z6 p0 y1) true (!(s_Z3 (p0.getD y1.toNat (zz0,(zz0,(zz0,(zz0,zz0))))).2.2.2.2 (-100000:Int) (100000:Int))))=true) →(K (y1,zz2))) ∧(((cond (q2_Z6 p0 y1) true (!(s_Z3 (p0.getD y1.toNat (zz0,(zz0,(zz0,(zz0,zz0))))).2.2.2.2 (-100000:Int) (100000:Int))))=false) →((((decide (y1 > zz0))=true) →((decide (y1 > zz0))=(decide (y1 > zz0)))) ∧((((decide (y1 > zz0))=true) →((decide (y1 > zz0))=(decide (y1 > zz0)))) ∧((((decide (y1 > zz0))=true) →((decide (y1 > zz0))=(decide (y1 > zz0)))) ∧((((decide (y1 > zz0))=true) →((decide (y1 > zz0))=(decide (y1 > zz0)))) ∧((((decide (y1 > zz0))=true) →(zz0≤(wi (y1 - zz1)))) ∧((((decide (y1 > zz0))=true) →((wi (y1 - zz1)) < (p0.length:Int))) ∧((((decide (y1 > zz0))=true) →((decide (y1 > zz0))=(decide (y1 > zz0)))) ∧((((decide (y1 > zz0))=true) →((decide (y1 > zz0))=(decide (y1 > zz0)))) ∧((((decide (y1 > zz0))=true) →((decide (y1 > zz0))=(decide (y1 > zz0)))) ∧((((decide (y1 > zz0))=true) →((decide (y1 > zz0))=(decide (y1 > zz0)))) ∧(((decide (y1 > zz0))=(decide (y1 > zz0))) ∧((((cond (decide (y1 > zz0)) (decide ((p0.getD y1.toNat (zz0,(zz0,(zz0,(zz0,zz0))))).1≤(p0.getD (Int.toNat (wi (y1 - zz1))) (zz0,(zz0,(zz0,(zz0,zz0))))).1)) false)=true) →(K (y1,(9:Int)))) ∧(((cond (decide (y1 > zz0)) (decide ((p0.getD y1.toNat (zz0,(zz0,(zz0,(zz0,zz0))))).1≤(p0.getD (Int.toNat (wi (y1 - zz1))) (zz0,(zz0,(zz0,(zz0,zz0))))).1)) false)=false) →(k2 (wi (y1 + zz1))))))))))))))))))))))))))))))))))))) ∧(((decide (y1 < (p0.length:Int)))=false) →(K (zz0,zz0))))) n0 zz0))))))
theorem w_Z6_eq (p0:(List (Int×(Int×(Int×(Int×Int)))))) (K:(Int×Int)→Prop):tfn F_Z6 A_Z6 C_Z6 P_Z6 R_Z6 p0 K = w_Z6 p0 K := by kernel_rfl
def st_Z6_0 (p0:(List (Int×(Int×(Int×(Int×Int)))))) (y2:Int):Int ⊕ (Int×Int) := (cond (decide (y2 < (p0.length:Int))) (cond (cond (cond (cond (cond (!(s_Z3 (p0.getD y2.toNat ((0:Int),((0:Int),((0:Int),(0,0))))).1 (0:Int) (1000000000000:Int))) true (!(s_Z3 (p0.getD y2.toNat ((0:Int),((0:Int),((0:Int),(0,0))))).2.1 (-10:Int) (10:Int)))) true (!(s_Z3 (p0.getD y2.toNat ((0:Int),((0:Int),((0:Int),(0,0))))).2.2.1 (-10:Int) (10:Int)))) true (!(s_Z3 (p0.getD y2.toNat ((0:Int),((0:Int),((0:Int),(0,0))))).2.2.2.1 (-10:Int) (10:Int)))) true (!(s_Z3 (p0.getD y2.toNat ((0:Int),((0:Int),((0:Int),(0,0))))).2.2.2.2 (-100000:Int) (100000:Int)))) (Sum.inr (y2,(2:Int))) (cond (cond (decide (y2 > 0)) (decide ((p0.getD y2.toNat ((0:Int),((0:Int),((0:Int),(0,0))))).1≤(p0.getD (Int.toNat (IntKind.i64.wrap (y2 - 1))) ((0:Int),((0:Int),((0:Int),(0,0))))).1)) false) (Sum.inr (y2,(9:Int))) (Sum.inl (IntKind.i64.wrap (y2 + 1))))) (Sum.inr (0,0)))
abbrev sp_Z6_0 (p0:(List (Int×(Int×(Int×(Int×Int)))))) (y2:Int):List Prop := [(((decide (y2 < (p0.length:Int)))=true)→((0:Int)≤y2)),(((decide (y2 < (p0.length:Int)))=true)→(y2 < (p0.length:Int))),(((decide (y2 < (p0.length:Int)))=true)→(((cond (cond (cond (cond (!(s_Z3 (p0.getD y2.toNat ((0:Int),((0:Int),((0:Int),(0,0))))).1 (0:Int) (1000000000000:Int))) true (!(s_Z3 (p0.getD y2.toNat ((0:Int),((0:Int),((0:Int),(0,0))))).2.1 (-10:Int) (10:Int)))) true (!(s_Z3 (p0.getD y2.toNat ((0:Int),((0:Int),((0:Int),(0,0))))).2.2.1 (-10:Int) (10:Int)))) true (!(s_Z3 (p0.getD y2.toNat ((0:Int),((0:Int),((0:Int),(0,0))))).2.2.2.1 (-10:Int) (10:Int)))) true (!(s_Z3 (p0.getD y2.toNat ((0:Int),((0:Int),((0:Int),(0,0))))).2.2.2.2 (-100000:Int) (100000:Int))))=false)→(((decide (y2 > 0))=true)→((0:Int)≤(IntKind.i64.wrap (y2 - 1)))))),(((decide (y2 < (p0.length:Int)))=true)→(((cond (cond (cond (cond (!(s_Z3 (p0.getD y2.toNat ((0:Int),((0:Int),((0:Int),(0,0))))).1 (0:Int) (1000000000000:Int))) true (!(s_Z3 (p0.getD y2.toNat ((0:Int),((0:Int),((0:Int),(0,0))))).2.1 (-10:Int) (10:Int)))) true (!(s_Z3 (p0.getD y2.toNat ((0:Int),((0:Int),((0:Int),(0,0))))).2.2.1 (-10:Int) (10:Int)))) true (!(s_Z3 (p0.getD y2.toNat ((0:Int),((0:Int),((0:Int),(0,0))))).2.2.2.1 (-10:Int) (10:Int)))) true (!(s_Z3 (p0.getD y2.toNat ((0:Int),((0:Int),((0:Int),(0,0))))).2.2.2.2 (-100000:Int) (100000:Int))))=false)→(((decide (y2 > 0))=true)→((IntKind.i64.wrap (y2 - 1)) < (p0.length:Int)))))]
def s_Z6 (p0:(List (Int×(Int×(Int×(Int×Int)))))):(Int×Int) := (cond ((p0.length:Int) == 0) ((0:Int),(10:Int)) (cond (decide ((p0.length:Int) > 20)) ((0:Int),(8:Int)) (lpv (0,0) (st_Z6_0 p0) (0:Int))))
abbrev pre_Z6 (p0:(List (Int×(Int×(Int×(Int×Int)))))):List Prop := [((((p0.length:Int) == 0)=false)→(((decide ((p0.length:Int) > 20))=false)→(OkL (st_Z6_0 p0) (sp_Z6_0 p0) (0:Int))))]
theorem d_Z6 (p0:(List (Int×(Int×(Int×(Int×Int)))))) (K:(Int×Int)→Prop) (hp:∀ p∈pre_Z6 p0,p) (h:K (s_Z6 p0)):w_Z6 p0 K := by
 unfold w_Z6
 unfold s_Z6 at h
 obtain ⟨hp0,_⟩ := conj_of hp
 exact (br' h (fun e0 h => h)
  (fun e0 h => (br' h (fun e1 h => h)
  (fun e1 h => (loop_gen (hp0 e0 e1) h (fun y2 k2 hp h => by
 unfold st_Z6_0 at h; obtain ⟨hp0,hp1,hp2,hp3,_⟩ := conj_of hp
 exact (br' h (fun e3 h => ⟨(hp0 e3),(hp1 e3),rf,rf,rf,rfl,rf,rf,rf,rfl,rf,rf,rf,rfl,rf,rf,rf,rfl,(br' h (fun e4 h => h)
  (fun e4 h => ⟨rf,rf,rf,rf,(hp2 e3 e4),(hp3 e3 e4),rf,rf,rf,rf,rfl,(br' h (fun e5 h => h)
  (fun e5 h => h))⟩))⟩)
  (fun e3 h => h))))))))
/-- Whether a sample is valid; what is wrong with one of samples; with samples. -/
def v_sval (x:Int×Int×Int×Int×Int):Bool := cond (s_Z3 x.1 0 1000000000000) (cond (s_Z3 x.2.1 (-10) 10) (cond (s_Z3 x.2.2.1 (-10) 10) (cond (s_Z3 x.2.2.2.1 (-10) 10) (s_Z3 x.2.2.2.2 (-100000) 100000) false) false) false) false
def v_cs1 (l:List (Int×Int×Int×Int×Int)) (i:Int) (x:Int×Int×Int×Int×Int):Option (Int×Int) := cond (v_sval x) (cond (cond (i == 0) true (decide (x.1 > (l.getD (i - 1).toNat (0,0,0,0,0)).1))) none (some (i,9))) (some (i,2))
def v_cs (l:List (Int×Int×Int×Int×Int)):Int×Int := cond ((l.length:Int) == 0) (0,10) (cond (decide ((l.length:Int) > 20)) (0,8) (v_scan (v_cs1 l) (0,0) 0 l))
theorem v_svalr {x:Int×Int×Int×Int×Int}:cond (cond (cond (cond (!(s_Z3 x.1 0 1000000000000)) true (!(s_Z3 x.2.1 (-10) 10))) true (!(s_Z3 x.2.2.1 (-10) 10))) true (!(s_Z3 x.2.2.2.1 (-10) 10))) true (!(s_Z3 x.2.2.2.2 (-100000) 100000)) = !(v_sval x) := by
 unfold v_sval
 cases s_Z3 x.1 0 1000000000000 <;> cases s_Z3 x.2.1 (-10) 10 <;> cases s_Z3 x.2.2.1 (-10) 10 <;> cases s_Z3 x.2.2.2.1 (-10) 10 <;> cases s_Z3 x.2.2.2.2 (-100000) 100000 <;> rfl
theorem l_Z6_0 (p0:List (Int×Int×Int×Int×Int)) (hl:p0.length≤20):OkL (st_Z6_0 p0) (sp_Z6_0 p0) 0∧lpv ((0,0):Int×Int) (st_Z6_0 p0) 0 = v_scan (v_cs1 p0) ((0,0):Int×Int) 0 p0 := by
 refine scan_is p0 (0,0,0,0,0) (v_cs1 p0) ((0,0):Int×Int) (lenOk_le hl (by decide)) ?_ ?_
 ·refine ⟨by simp only [sp_Z6_0,fM,decide_eq_true_eq]; simp,by simp [st_Z6_0]⟩
 ·intro j hj
  have hj' : (j:Int) < p0.length := by omega
  have hw := wrap_nat (show (j:Int)≤9223372036854775806 by omega)
  have hw2:IntKind.i64.wrap ((j:Int) - 1)=(j:Int) - 1 := wrap_id (by omega) (by omega)
  refine ⟨by simp only [sp_Z6_0,fM,decide_eq_true_eq,Int.toNat_natCast]; rw [hw2]; and_intros <;> first | (intro p hp; cases hp; done) | (intros; first | omega | (simp_all; done) | (simp_all; omega)),?_⟩
  simp only [st_Z6_0,hj',decide_true,Int.toNat_natCast,cond_true,hw,s_Z1b,s_Z1c,s_Z1d,v_svalr,hw2]
  unfold v_cs1
  cases v_sval (p0.getD j (0,0,0,0,0))
  ·rfl
  ·rcases int0 (j:Int) with ⟨hj0,_,z⟩ | ⟨hj0,_,z⟩ <;> rw [z]
   ·rw [decide_eq_false (show ¬ (j:Int) > 0 by omega)]; rfl
   ·rw [decide_eq_true (show (j:Int) > 0 by omega)]
    rcases dec0 (a := (p0.getD ((j:Int) - 1).toNat (0,0,0,0,0)).1) (b := (p0.getD j (0,0,0,0,0)).1) with ⟨_,c1,c2,c3,c4⟩ | ⟨_,c1,c2,c3,c4⟩ <;> simp only [c3,c4] <;> rfl
abbrev t_Z6 (p0:List (Int×Int×Int×Int×Int)):Int×Int := v_cs p0
abbrev qre_Z6 (_p0:List (Int×Int×Int×Int×Int)):List Prop := []
theorem pp_Z6 (p0:List (Int×Int×Int×Int×Int)) (_hq:∀ p∈qre_Z6 p0,p):∀ p∈pre_Z6 p0,p := by
 simp only [pre_Z6,fM]
 exact ⟨fun _ h => (l_Z6_0 p0 (by have := of_decide_eq_false h; omega)).1,by simp⟩
theorem tt_Z6 (p0:List (Int×Int×Int×Int×Int)) (_hq:∀ p∈qre_Z6 p0,p):s_Z6 p0 = t_Z6 p0 := by
 unfold s_Z6 t_Z6 v_cs
 cases h:decide ((p0.length:Int) > 20)
 ·rw [(l_Z6_0 p0 (by have := of_decide_eq_false h; omega)).2]
 ·rfl

abbrev con_Z6:Con := ⟨P_Z6,R_Z6,fun x => qre_Z6 x,fun x => t_Z6 x⟩
theorem ok_Z6:ConOk Try.prog 34 con_Z6 := okG k_Z6 e_Z6 hC_Z6 fun x hx => tf_of (w_Z6_eq x _) (d_Z6 x _ (pp_Z6 x hx) (tt_Z6 x hx))
def C_Z1a:Cons := [(34,[],con_Z6)]
theorem hC_Z1a:ConsOk Try.prog C_Z1a := cC ok_Z6 <| ConsOk.nil
def w_Z1a (p0:(List (Int×(Int×(Int×(Int×Int)))))) (K:Int→Prop):Prop := (K (v_cs p0).2)
theorem w_Z1a_eq (p0:(List (Int×(Int×(Int×(Int×Int)))))) (K:Int→Prop):tfn F_Z1a A_Z1a C_Z1a P_Z1a R_Z1a p0 K = w_Z1a p0 K := by kernel_rfl
def s_Z1a (p0:(List (Int×(Int×(Int×(Int×Int)))))):Int := (v_cs p0).2
abbrev pre_Z1a (_p0:(List (Int×(Int×(Int×(Int×Int)))))):List Prop := []
theorem d_Z1a (p0:(List (Int×(Int×(Int×(Int×Int)))))) (K:Int→Prop) (_hp:∀ p∈pre_Z1a p0,p) (h:K (s_Z1a p0)):w_Z1a p0 K := by
 unfold w_Z1a
 unfold s_Z1a at h
 exact h
abbrev con_Z1a:Con := ⟨P_Z1a,R_Z1a,fun x => pre_Z1a x,fun x => s_Z1a x⟩
theorem ok_Z1a:ConOk Try.prog 24 con_Z1a := okG k_Z1a e_Z1a hC_Z1a fun x hx => tf_of (w_Z1a_eq x _) (d_Z1a x _ hx rfl)
def C_Z18:Cons := []
theorem hC_Z18:ConsOk Try.prog C_Z18 := ConsOk.nil
def w_Z18 (p0:Int) (p1:Int) (K:Bool→Prop):Prop := ((zz0≤p1) ∧(K ((v_and .i64 (v_shr .i64 p0 p1) zz1) == 1)))
theorem w_Z18_eq (p0:Int) (p1:Int) (K:Bool→Prop):tfn F_Z18 A_Z18 C_Z18 P_Z18 R_Z18 (p0,p1) K = w_Z18 p0 p1 K := by kernel_rfl
def s_Z18 (p0:Int) (p1:Int):Bool := ((v_and .i64 (v_shr .i64 p0 p1) (1:Int)) == 1)
abbrev pre_Z18 (_p0:Int) (p1:Int):List Prop := [((0:Int)≤p1)]
theorem d_Z18 (p0:Int) (p1:Int) (K:Bool→Prop) (hp:∀ p∈pre_Z18 p0 p1,p) (h:K (s_Z18 p0 p1)):w_Z18 p0 p1 K := by
 unfold w_Z18
 unfold s_Z18 at h
 obtain ⟨hp0,_⟩ := conj_of hp
 exact ⟨(hp0),h⟩
abbrev con_Z18:Con := ⟨P_Z18,R_Z18,fun x => pre_Z18 x.1 x.2,fun x => s_Z18 x.1 x.2⟩
theorem ok_Z18:ConOk Try.prog 111 con_Z18 := okG k_Z18 e_Z18 hC_Z18 fun x hx => tf_of (w_Z18_eq x.1 x.2 _) (d_Z18 x.1 x.2 _ hx rfl)
def C_Zb:Cons := [(111,[],con_Z18)]
theorem hC_Zb:ConsOk Try.prog C_Zb := cC ok_Z18 <| ConsOk.nil
def w_Zb (p0:Int) (K:(List Int)→Prop):Prop := (∃ n0,(loopP (fun (y1:gE) k2 => ((((decide (y1.1 < 8))=true) →((zz0≤y1.1) ∧(((((v_and .i64 (v_shr .i64 p0 y1.1) zz1) == 1)=true) →((((y1.2.length + (List.length (y1.1 :: ([]:List Int)))) * 8)≤140737488355328) ∧(k2 ((IntKind.i64.wrap (y1.1 + 1)),(y1.2 ++ (y1.1 :: ([]:List Int))))))) ∧((((v_and .i64 (v_shr .i64 p0 y1.1) zz1) == 1)=false) →(k2 ((IntKind.i64.wrap (y1.1 + 1)),y1.2)))))) ∧(((decide (y1.1 < 8))=false) →(K y1.2)))) n0 (zz0,([]:List Int))))
theorem w_Zb_eq (p0:Int) (K:(List Int)→Prop):tfn F_Zb A_Zb C_Zb P_Zb R_Zb p0 K = w_Zb p0 K := by kernel_rfl
def st_Zb_0 (p0:Int) (y0:gE):(Int×(List Int)) ⊕ (List Int) := (cond (decide (y0.1 < 8)) (cond ((v_and .i64 (v_shr .i64 p0 y0.1) (1:Int)) == 1) (Sum.inl ((IntKind.i64.wrap (y0.1 + 1)),(y0.2 ++ (y0.1 :: ([]:List Int))))) (Sum.inl ((IntKind.i64.wrap (y0.1 + 1)),y0.2))) (Sum.inr y0.2))
abbrev sp_Zb_0 (p0:Int) (y0:gE):List Prop := [(((decide (y0.1 < 8))=true)→((0:Int)≤y0.1)),(((decide (y0.1 < 8))=true)→((((v_and .i64 (v_shr .i64 p0 y0.1) (1:Int)) == 1)=true)→(((y0.2.length + (List.length (y0.1 :: ([]:List Int)))) * 8)≤140737488355328)))]
def s_Zb (p0:Int):(List Int) := (lpv [] (st_Zb_0 p0) ((0:Int),([]:List Int)))
abbrev pre_Zb (p0:Int):List Prop := [(OkL (st_Zb_0 p0) (sp_Zb_0 p0) ((0:Int),([]:List Int)))]
theorem d_Zb (p0:Int) (K:(List Int)→Prop) (hp:∀ p∈pre_Zb p0,p) (h:K (s_Zb p0)):w_Zb p0 K := by
 unfold w_Zb
 unfold s_Zb at h
 obtain ⟨hp0,_⟩ := conj_of hp
 exact (loop_gen (hp0) h (fun y0 k0 hp h => by
 unfold st_Zb_0 at h; obtain ⟨hp0,hp1,_⟩ := conj_of hp
 exact (br' h (fun e1 h => ⟨(hp0 e1),(br' h (fun e2 h => ⟨(hp1 e1 e2),h⟩)
  (fun e2 h => h))⟩)
  (fun e1 h => h))))
/-- Whether a term is chosen; the chosen ones below a number. -/
def v_hs (m:Int) (t:Nat):Bool := v_and .i64 (v_shr .i64 m (t:Int)) 1 == 1
def v_cho (m:Int):Nat→List Int
 | 0 => []
 | n + 1 => v_cho m n ++ cond (v_hs m n) [(n:Int)] []
theorem v_cho_len (m:Int):∀ n,(v_cho m n).length≤n
 | 0 => Nat.le_refl _
 | n + 1 => by
  have := v_cho_len m n
  unfold v_cho
  rw [List.length_append]
  cases v_hs m n
  ·rw [cond_false,List.length_nil]; omega
  ·rw [cond_true,List.length_singleton]; omega
theorem v_cho_mem {m:Int} {x:Int}:∀ n,x∈v_cho m n ↔ ∃ t,t < n∧v_hs m t = true∧x = (t:Int)
 | 0 => by simp [v_cho]
 | n + 1 => by
  unfold v_cho
  rw [List.mem_append,v_cho_mem n]
  constructor
  ·rintro (⟨t,h1,h2⟩ | h)
   ·exact ⟨t,by omega,h2⟩
   ·cases c:v_hs m n <;> rw [c] at h
    ·cases h
    ·exact ⟨n,by omega,c,List.mem_singleton.1 h⟩
  ·rintro ⟨t,h1,h2,h3⟩
   rcases Nat.lt_or_ge t n with g | g
   ·exact .inl ⟨t,g,h2,h3⟩
   ·obtain rfl:t = n := by omega
    rw [h2]; exact .inr (List.mem_singleton.2 h3)
theorem l_Zb_0 (p0:Int):OkL (st_Zb_0 p0) (sp_Zb_0 p0) (0,[])∧lpv [] (st_Zb_0 p0) (0,[])=v_cho p0 8 := by
 refine @for_is (List Int) (Int×List Int) (List Int) [] (st_Zb_0 p0) (sp_Zb_0 p0) (fun i t => (i,t)) 0 8 (fun j t => t = v_cho p0 j) (fun _ _ => v_cho p0 8) (by decide) (by decide) ?_ ?_ [] rfl
 ·rintro t rfl
  simp only [sp_Zb_0,st_Zb_0,fM,show decide (((8:Nat):Int) < 8)=false from rfl,cond_false]
  refine ⟨?_,by first | rfl | trivial⟩
  repeat' refine And.intro ?_ ?_
  all_goals first
   | (intro h; cases h; done)
   | (intro p hp; cases hp; done)
 ·rintro j t _ hj rfl
  have hl := v_cho_len p0 j
  have hw1:IntKind.i64.wrap ((j:Int) + 1)=((j + 1:Nat):Int) := wrap_id (by omega) (by omega)
  have hd:decide ((j:Int) < 8)=true := decide_eq_true (by omega)
  have hv:(v_and .i64 (v_shr .i64 p0 (j:Int)) 1 == 1)=v_hs p0 j := rfl
  simp only [sp_Zb_0,st_Zb_0,fM,hd,hw1,hv,cond_true]
  have hs:v_cho p0 (j + 1)=v_cho p0 j ++ cond (v_hs p0 j) [(j:Int)] [] := rfl
  refine ⟨?_,.inl ⟨v_cho p0 (j + 1),?_,rfl,by first | rfl | trivial⟩⟩
  ·repeat' refine And.intro ?_ ?_
   all_goals first
    | (intro p hp; cases hp; done)
    | (intros; simp only [List.length_cons,List.length_nil]; omega)
    | (intros; omega)
  ·rw [hs]
   cases v_hs p0 j
   ·rw [cond_false,cond_false,List.append_nil]
   ·rw [cond_true,cond_true]
abbrev t_Zb (p0:Int):List Int := v_cho p0 8
abbrev qre_Zb (_p0:Int):List Prop := []
theorem pp_Zb (p0:Int) (_hq:∀ p∈qre_Zb p0,p):∀ p∈pre_Zb p0,p := by
 simp only [pre_Zb,fM]
 exact ⟨(l_Zb_0 p0).1,by simp⟩
theorem tt_Zb (p0:Int) (_hq:∀ p∈qre_Zb p0,p):s_Zb p0 = t_Zb p0 := by
 exact (l_Zb_0 p0).2

abbrev con_Zb:Con := ⟨P_Zb,R_Zb,fun x => qre_Zb x,fun x => t_Zb x⟩
theorem ok_Zb:ConOk Try.prog 74 con_Zb := okG k_Zb e_Zb hC_Zb fun x hx => tf_of (w_Zb_eq x _) (d_Zb x _ (pp_Zb x hx) (tt_Zb x hx))
def C_Zf:Cons := []
theorem hC_Zf:ConsOk Try.prog C_Zf := ConsOk.nil
def w_Zf (p0:Bool) (p1:Int) (K:Int→Prop):Prop := (((p0 = true) →(K zz0)) ∧((p0 = false) →(K p1)))
theorem w_Zf_eq (p0:Bool) (p1:Int) (K:Int→Prop):tfn F_Zf A_Zf C_Zf P_Zf R_Zf (p0,p1) K = w_Zf p0 p1 K := by kernel_rfl
def s_Zf (p0:Bool) (p1:Int):Int := (cond p0 (0:Int) p1)
abbrev pre_Zf (_p0:Bool) (_p1:Int):List Prop := []
theorem d_Zf (p0:Bool) (p1:Int) (K:Int→Prop) (_hp:∀ p∈pre_Zf p0 p1,p) (h:K (s_Zf p0 p1)):w_Zf p0 p1 K := by
 unfold w_Zf
 unfold s_Zf at h
 exact (br' h (fun e0 h => h)
  (fun e0 h => h))
abbrev con_Zf:Con := ⟨P_Zf,R_Zf,fun x => pre_Zf x.1 x.2,fun x => s_Zf x.1 x.2⟩
theorem ok_Zf:ConOk Try.prog 66 con_Zf := okG k_Zf e_Zf hC_Zf fun x hx => tf_of (w_Zf_eq x.1 x.2 _) (d_Zf x.1 x.2 _ hx rfl)
theorem tx_unless {a:Bool} {x:Int}:s_Zf a x = cond a 0 x := by cases a <;> rfl
def C_Zw:Cons := [(86,[],con_Z7),(74,[],con_Zb),(66,[],con_Zf)]
theorem hC_Zw:ConsOk Try.prog C_Zw := cC ok_Z7 <| cC ok_Zb <| cC ok_Zf <| ConsOk.nil
def w_Zw (p0:Int) (K:Int→Prop):Prop := ((((!(s_Z7 p0 zz1 (255:Int)))=true) →(K (2:Int))) ∧(((!(s_Z7 p0 zz1 (255:Int)))=false) →(K (s_Zf (decide ((((v_cho p0 8).length:Nat):Int)≤4)) (8:Int)))))
theorem w_Zw_eq (p0:Int) (K:Int→Prop):tfn F_Zw A_Zw C_Zw P_Zw R_Zw p0 K = w_Zw p0 K := by kernel_rfl
def s_Zw (p0:Int):Int := (cond (!(s_Z7 p0 (1:Int) (255:Int))) (2:Int) (s_Zf (decide ((((v_cho p0 8).length:Nat):Int)≤4)) (8:Int)))
abbrev pre_Zw (_p0:Int):List Prop := []
theorem d_Zw (p0:Int) (K:Int→Prop) (_hp:∀ p∈pre_Zw p0,p) (h:K (s_Zw p0)):w_Zw p0 K := by
 unfold w_Zw
 unfold s_Zw at h
 exact (br' h (fun e0 h => h)
  (fun e0 h => h))
/-- The error of a model. -/
def v_terr (m:Int):Int := cond (s_Z3 m 1 255) (cond (decide (((v_cho m 8).length:Int)≤4)) 0 8) 2
abbrev t_Zw (p0:Int):Int := v_terr p0
abbrev qre_Zw (_p0:Int):List Prop := []
theorem pp_Zw (p0:Int) (_hq:∀ p∈qre_Zw p0,p):∀ p∈pre_Zw p0,p := by
 intro p hp; simp at hp
theorem tt_Zw (p0:Int) (_hq:∀ p∈qre_Zw p0,p):s_Zw p0 = t_Zw p0 := by
 unfold s_Zw t_Zw v_terr
 rw [tx_withinG,tx_unless]
 cases s_Z3 p0 1 255 <;> rfl

abbrev con_Zw:Con := ⟨P_Zw,R_Zw,fun x => qre_Zw x,fun x => t_Zw x⟩
theorem ok_Zw:ConOk Try.prog 73 con_Zw := okG k_Zw e_Zw hC_Zw fun x hx => tf_of (w_Zw_eq x _) (d_Zw x _ (pp_Zw x hx) (tt_Zw x hx))
def C_Zh:Cons := []
theorem hC_Zh:ConsOk Try.prog C_Zh := ConsOk.nil
def w_Zh (p0:Int) (K:(List Int)→Prop):Prop := (∃ n0,(loopP (fun (y1:gE) k2 => ((((decide (y1.1 < 8))=true) →((zz0≤y1.1) ∧(((((v_and .i64 (v_shr .i64 p0 y1.1) zz1) == 1)=true) →((((y1.2.length + (List.length (y1.1 :: ([]:List Int)))) * 8)≤140737488355328) ∧(k2 ((IntKind.i64.wrap (y1.1 + 1)),(y1.2 ++ (y1.1 :: ([]:List Int))))))) ∧((((v_and .i64 (v_shr .i64 p0 y1.1) zz1) == 1)=false) →(k2 ((IntKind.i64.wrap (y1.1 + 1)),y1.2)))))) ∧(((decide (y1.1 < 8))=false) →(K y1.2)))) n0 (zz0,([]:List Int))))
theorem w_Zh_eq (p0:Int) (K:(List Int)→Prop):tfn F_Zh A_Zh C_Zh P_Zh R_Zh p0 K = w_Zh p0 K := by kernel_rfl
def st_Zh_0 (p0:Int) (y0:gE):(Int×(List Int)) ⊕ (List Int) := (cond (decide (y0.1 < 8)) (cond ((v_and .i64 (v_shr .i64 p0 y0.1) (1:Int)) == 1) (Sum.inl ((IntKind.i64.wrap (y0.1 + 1)),(y0.2 ++ (y0.1 :: ([]:List Int))))) (Sum.inl ((IntKind.i64.wrap (y0.1 + 1)),y0.2))) (Sum.inr y0.2))
abbrev sp_Zh_0 (p0:Int) (y0:gE):List Prop := [(((decide (y0.1 < 8))=true)→((0:Int)≤y0.1)),(((decide (y0.1 < 8))=true)→((((v_and .i64 (v_shr .i64 p0 y0.1) (1:Int)) == 1)=true)→(((y0.2.length + (List.length (y0.1 :: ([]:List Int)))) * 8)≤140737488355328)))]
def s_Zh (p0:Int):(List Int) := (lpv [] (st_Zh_0 p0) ((0:Int),([]:List Int)))
abbrev pre_Zh (p0:Int):List Prop := [(OkL (st_Zh_0 p0) (sp_Zh_0 p0) ((0:Int),([]:List Int)))]
theorem d_Zh (p0:Int) (K:(List Int)→Prop) (hp:∀ p∈pre_Zh p0,p) (h:K (s_Zh p0)):w_Zh p0 K := by
 unfold w_Zh
 unfold s_Zh at h
 obtain ⟨hp0,_⟩ := conj_of hp
 exact (loop_gen (hp0) h (fun y0 k0 hp h => by
 unfold st_Zh_0 at h; obtain ⟨hp0,hp1,_⟩ := conj_of hp
 exact (br' h (fun e1 h => ⟨(hp0 e1),(br' h (fun e2 h => ⟨(hp1 e1 e2),h⟩)
  (fun e2 h => h))⟩)
  (fun e1 h => h))))
theorem l_Zh_0 (p0:Int):OkL (st_Zh_0 p0) (sp_Zh_0 p0) (0,[])∧lpv [] (st_Zh_0 p0) (0,[])=v_cho p0 8 := by
 refine @for_is (List Int) (Int×List Int) (List Int) [] (st_Zh_0 p0) (sp_Zh_0 p0) (fun i t => (i,t)) 0 8 (fun j t => t = v_cho p0 j) (fun _ _ => v_cho p0 8) (by decide) (by decide) ?_ ?_ [] rfl
 ·rintro t rfl
  simp only [sp_Zh_0,st_Zh_0,fM,show decide (((8:Nat):Int) < 8)=false from rfl,cond_false]
  refine ⟨?_,by first | rfl | trivial⟩
  repeat' refine And.intro ?_ ?_
  all_goals first
   | (intro h; cases h; done)
   | (intro p hp; cases hp; done)
 ·rintro j t _ hj rfl
  have hl := v_cho_len p0 j
  have hw1:IntKind.i64.wrap ((j:Int) + 1)=((j + 1:Nat):Int) := wrap_id (by omega) (by omega)
  have hd:decide ((j:Int) < 8)=true := decide_eq_true (by omega)
  have hv:(v_and .i64 (v_shr .i64 p0 (j:Int)) 1 == 1)=v_hs p0 j := rfl
  simp only [sp_Zh_0,st_Zh_0,fM,hd,hw1,hv,cond_true]
  have hs:v_cho p0 (j + 1)=v_cho p0 j ++ cond (v_hs p0 j) [(j:Int)] [] := rfl
  refine ⟨?_,.inl ⟨v_cho p0 (j + 1),?_,rfl,by first | rfl | trivial⟩⟩
  ·repeat' refine And.intro ?_ ?_
   all_goals first
    | (intro p hp; cases hp; done)
    | (intros; simp only [List.length_cons,List.length_nil]; omega)
    | (intros; omega)
  ·rw [hs]
   cases v_hs p0 j
   ·rw [cond_false,cond_false,List.append_nil]
   ·rw [cond_true,cond_true]
abbrev t_Zh (p0:Int):List Int := v_cho p0 8
abbrev qre_Zh (_p0:Int):List Prop := []
theorem pp_Zh (p0:Int) (_hq:∀ p∈qre_Zh p0,p):∀ p∈pre_Zh p0,p := by
 simp only [pre_Zh,fM]
 exact ⟨(l_Zh_0 p0).1,by simp⟩
theorem tt_Zh (p0:Int) (_hq:∀ p∈qre_Zh p0,p):s_Zh p0 = t_Zh p0 := by
 exact (l_Zh_0 p0).2

abbrev con_Zh:Con := ⟨P_Zh,R_Zh,fun x => qre_Zh x,fun x => t_Zh x⟩
theorem ok_Zh:ConOk Try.prog 96 con_Zh := okG k_Zh e_Zh hC_Zh fun x hx => tf_of (w_Zh_eq x _) (d_Zh x _ (pp_Zh x hx) (tt_Zh x hx))
def C_Zz:Cons := [(17,[],con_Z3),(96,[],con_Zh)]
theorem hC_Zz:ConsOk Try.prog C_Zz := cC ok_Z3 <| cC ok_Zh <| ConsOk.nil
def w_Zz (p0:Int) (K:Int→Prop):Prop := ((((!(s_Z3 p0 zz1 (255:Int)))=true) →(K (2:Int))) ∧(((!(s_Z3 p0 zz1 (255:Int)))=false) →((((decide ((((v_cho p0 8).length:Nat):Int) > 4))=true) →(K (8:Int))) ∧(((decide ((((v_cho p0 8).length:Nat):Int) > 4))=false) →(K zz0)))))
theorem w_Zz_eq (p0:Int) (K:Int→Prop):tfn F_Zz A_Zz C_Zz P_Zz R_Zz p0 K = w_Zz p0 K := by kernel_rfl
def s_Zz (p0:Int):Int := (cond (!(s_Z3 p0 (1:Int) (255:Int))) (2:Int) (cond (decide ((((v_cho p0 8).length:Nat):Int) > 4)) (8:Int) (0:Int)))
abbrev pre_Zz (_p0:Int):List Prop := []
theorem d_Zz (p0:Int) (K:Int→Prop) (_hp:∀ p∈pre_Zz p0,p) (h:K (s_Zz p0)):w_Zz p0 K := by
 unfold w_Zz
 unfold s_Zz at h
 exact (br' h (fun e0 h => h)
  (fun e0 h => (br' h (fun e1 h => h)
  (fun e1 h => h))))
abbrev t_Zz (p0:Int):Int := v_terr p0
abbrev qre_Zz (_p0:Int):List Prop := []
theorem pp_Zz (p0:Int) (_hq:∀ p∈qre_Zz p0,p):∀ p∈pre_Zz p0,p := by
 intro p hp; simp at hp
theorem tt_Zz (p0:Int) (_hq:∀ p∈qre_Zz p0,p):s_Zz p0 = t_Zz p0 := by
 unfold s_Zz t_Zz v_terr
 cases s_Z3 p0 1 255
 ·rfl
 ·by_cases h:((v_cho p0 8).length:Int)≤4
  ·rw [decide_eq_true h,decide_eq_false (show ¬ ((v_cho p0 8).length:Int) > 4 by omega)]; rfl
  ·rw [decide_eq_false h,decide_eq_true (show ((v_cho p0 8).length:Int) > 4 by omega)]; rfl

abbrev con_Zz:Con := ⟨P_Zz,R_Zz,fun x => qre_Zz x,fun x => t_Zz x⟩
theorem ok_Zz:ConOk Try.prog 70 con_Zz := okG k_Zz e_Zz hC_Zz fun x hx => tf_of (w_Zz_eq x _) (d_Zz x _ (pp_Zz x hx) (tt_Zz x hx))
def C_Z10:Cons := [(24,[],con_Z1a),(70,[],con_Zz)]
theorem hC_Z10:ConsOk Try.prog C_Z10 := cC ok_Z1a <| cC ok_Zz <| ConsOk.nil
def w_Z10 (p0:(List (Int×(Int×(Int×(Int×Int)))))) (p1:Int) (K:Int→Prop):Prop := (((((v_cs p0).2 != 0)=true) →(K (v_cs p0).2)) ∧((((v_cs p0).2 != 0)=false) →(K (v_terr p1))))
theorem w_Z10_eq (p0:(List (Int×(Int×(Int×(Int×Int)))))) (p1:Int) (K:Int→Prop):tfn F_Z10 A_Z10 C_Z10 P_Z10 R_Z10 (p0,p1) K = w_Z10 p0 p1 K := by kernel_rfl
def s_Z10 (p0:(List (Int×(Int×(Int×(Int×Int)))))) (p1:Int):Int := (cond ((v_cs p0).2 != 0) (v_cs p0).2 (v_terr p1))
abbrev pre_Z10 (_p0:(List (Int×(Int×(Int×(Int×Int)))))) (_p1:Int):List Prop := []
theorem d_Z10 (p0:(List (Int×(Int×(Int×(Int×Int)))))) (p1:Int) (K:Int→Prop) (_hp:∀ p∈pre_Z10 p0 p1,p) (h:K (s_Z10 p0 p1)):w_Z10 p0 p1 K := by
 unfold w_Z10
 unfold s_Z10 at h
 exact (br' h (fun e0 h => h)
  (fun e0 h => h))
abbrev con_Z10:Con := ⟨P_Z10,R_Z10,fun x => pre_Z10 x.1 x.2,fun x => s_Z10 x.1 x.2⟩
theorem ok_Z10:ConOk Try.prog 21 con_Z10 := okG k_Z10 e_Z10 hC_Z10 fun x hx => tf_of (w_Z10_eq x.1 x.2 _) (d_Z10 x.1 x.2 _ hx rfl)
def C_Z1g:Cons := []
theorem hC_Z1g:ConsOk Try.prog C_Z1g := ConsOk.nil
def w_Z1g (p0:(List (Int×(Int×(Int×(Int×Int)))))) (K:(List (Int×(Int×(Int×(Int×Int)))))→Prop):Prop := (((((List.length ([]:List (Int×(Int×(Int×(Int×Int)))))) + p0.length) * 40)≤140737488355328) ∧(K (([]:List (Int×(Int×(Int×(Int×Int))))) ++ p0)))
theorem w_Z1g_eq (p0:(List (Int×(Int×(Int×(Int×Int)))))) (K:(List (Int×(Int×(Int×(Int×Int)))))→Prop):tfnO F_Z1g A_Z1g C_Z1g P_Z1g E_Z1g p0 K = w_Z1g p0 K := by kernel_rfl
def s_Z1g (p0:(List (Int×(Int×(Int×(Int×Int)))))):(List (Int×(Int×(Int×(Int×Int))))) := (([]:List (Int×(Int×(Int×(Int×Int))))) ++ p0)
abbrev pre_Z1g (p0:(List (Int×(Int×(Int×(Int×Int)))))):List Prop := [((((List.length ([]:List (Int×(Int×(Int×(Int×Int)))))) + p0.length) * 40)≤140737488355328)]
theorem d_Z1g (p0:(List (Int×(Int×(Int×(Int×Int)))))) (K:(List (Int×(Int×(Int×(Int×Int)))))→Prop) (hp:∀ p∈pre_Z1g p0,p) (h:K (s_Z1g p0)):w_Z1g p0 K := by
 unfold w_Z1g
 unfold s_Z1g at h
 obtain ⟨hp0,_⟩ := conj_of hp
 exact ⟨(hp0),h⟩
abbrev con_Z1g:Con := ⟨P_Z1g,[.one (.sl E_Z1g)],fun x => pre_Z1g x,fun x => s_Z1g x⟩
theorem ok_Z1g:ConOOk Try.prog 22 con_Z1g := conO_tf (e := E_Z1g) (ps := P_Z1g) k_Z1g e_Z1g hC_Z1g (fun x hx => tfo_of (w_Z1g_eq x (fun z => z = s_Z1g x)) (d_Z1g x (fun z => z = s_Z1g x) hx rfl))
def C_Za:Cons := []
theorem hC_Za:ConsOk Try.prog C_Za := ConsOk.nil
def w_Za (p0:gF) (K:Int→Prop):Prop := (∃ n0,(loopP (fun (y1:Int) k2 => ((((decide (y1 < (p0.length:Int)))=true) →((zz0≤y1) ∧((y1 < (p0.length:Int)) ∧(((((p0.getD y1.toNat zz0) != 0)=true) →(K (p0.getD y1.toNat zz0))) ∧((((p0.getD y1.toNat zz0) != 0)=false) →(k2 (IntKind.i64.wrap (y1 + 1)))))))) ∧(((decide (y1 < (p0.length:Int)))=false) →(K zz0)))) n0 zz0))
theorem w_Za_eq (p0:gF) (K:Int→Prop):tfn F_Za A_Za C_Za P_Za R_Za p0 K = w_Za p0 K := by kernel_rfl
def st_Za_0 (p0:gF) (y0:Int):Int ⊕ Int := (cond (decide (y0 < (p0.length:Int))) (cond ((p0.getD y0.toNat (0:Int)) != 0) (Sum.inr (p0.getD y0.toNat (0:Int))) (Sum.inl (IntKind.i64.wrap (y0 + 1)))) (Sum.inr (0:Int)))
abbrev sp_Za_0 (p0:gF) (y0:Int):List Prop := [(((decide (y0 < (p0.length:Int)))=true)→((0:Int)≤y0)),(((decide (y0 < (p0.length:Int)))=true)→(y0 < (p0.length:Int)))]
def s_Za (p0:gF):Int := (lpv (0:Int) (st_Za_0 p0) (0:Int))
abbrev pre_Za (p0:gF):List Prop := [(OkL (st_Za_0 p0) (sp_Za_0 p0) (0:Int))]
theorem d_Za (p0:gF) (K:Int→Prop) (hp:∀ p∈pre_Za p0,p) (h:K (s_Za p0)):w_Za p0 K := by
 unfold w_Za
 unfold s_Za at h
 obtain ⟨hp0,_⟩ := conj_of hp
 exact (loop_gen (hp0) h (fun y0 k0 hp h => by
 unfold st_Za_0 at h; obtain ⟨hp0,hp1,_⟩ := conj_of hp
 exact (br' h (fun e1 h => ⟨(hp0 e1),(hp1 e1),(br' h (fun e2 h => h)
  (fun e2 h => h))⟩)
  (fun e1 h => h))))
theorem l_Za_0 (p0:gF) (hl:lenOk p0):OkL (st_Za_0 p0) (sp_Za_0 p0) 0∧lpv (0:Int) (st_Za_0 p0) 0 = v_scan (fun _ x => cond (x != 0) (some x) none) (0:Int) 0 p0 := by
 refine scan_is p0 0 (fun _ x => cond (x != 0) (some x) none) (0:Int) hl ?_ ?_
 ·refine ⟨by simp only [sp_Za_0,fM,decide_eq_true_eq]; simp,by simp [st_Za_0]⟩
 ·intro j hj
  have hj' : (j:Int) < p0.length := by omega
  refine ⟨by simp only [sp_Za_0,fM,decide_eq_true_eq,Int.toNat_natCast]; simp <;> omega,?_⟩
  simp only [st_Za_0,hj',decide_true,Int.toNat_natCast,cond_true,wrap_nat (show (j:Int)≤9223372036854775806 by unfold lenOk at hl; omega)]
  generalize p0.getD j 0 = x
  cases (x != 0) <;> rfl
abbrev t_Za (p0:gF):Int := v_first p0
abbrev qre_Za (p0:gF):List Prop := [lenOk p0]
theorem pp_Za (p0:gF) (hq:∀ p∈qre_Za p0,p):∀ p∈pre_Za p0,p := by
 simp only [pre_Za,fM]
 exact ⟨(l_Za_0 p0 (conj_of hq).1).1,by simp⟩
theorem tt_Za (p0:gF) (hq:∀ p∈qre_Za p0,p):s_Za p0 = t_Za p0 := by
 exact (l_Za_0 p0 (conj_of hq).1).2.trans (v_first_scan p0 0)

abbrev con_Za:Con := ⟨P_Za,R_Za,fun x => qre_Za x,fun x => t_Za x⟩
theorem ok_Za:ConOk Try.prog 71 con_Za := okG k_Za e_Za hC_Za fun x hx => tf_of (w_Za_eq x _) (d_Za x _ (pp_Za x hx) (tt_Za x hx))
def C_Z15:Cons := [(86,[],con_Z7)]
theorem hC_Z15:ConsOk Try.prog C_Z15 := cC ok_Z7 <| ConsOk.nil
def w_Z15 (p0:Int) (K:Bool→Prop):Prop := (K (s_Z7 p0 zz0 (1000000000000:Int)))
theorem w_Z15_eq (p0:Int) (K:Bool→Prop):tfn F_Z15 A_Z15 C_Z15 P_Z15 R_Z15 p0 K = w_Z15 p0 K := by kernel_rfl
def s_Z15 (p0:Int):Bool := (s_Z7 p0 (0:Int) (1000000000000:Int))
abbrev pre_Z15 (_p0:Int):List Prop := []
theorem d_Z15 (p0:Int) (K:Bool→Prop) (_hp:∀ p∈pre_Z15 p0,p) (h:K (s_Z15 p0)):w_Z15 p0 K := by
 unfold w_Z15
 unfold s_Z15 at h
 exact h
abbrev con_Z15:Con := ⟨P_Z15,R_Z15,fun x => pre_Z15 x,fun x => s_Z15 x⟩
theorem ok_Z15:ConOk Try.prog 84 con_Z15 := okG k_Z15 e_Z15 hC_Z15 fun x hx => tf_of (w_Z15_eq x _) (d_Z15 x _ hx rfl)
def C_Z11:Cons := [(86,[],con_Z7)]
theorem hC_Z11:ConsOk Try.prog C_Z11 := cC ok_Z7 <| ConsOk.nil
def w_Z11 (p0:Int) (p1:Int) (K:Bool→Prop):Prop := (K (s_Z7 p0 (IntKind.i64.wrap (zz0 - p1)) p1))
theorem w_Z11_eq (p0:Int) (p1:Int) (K:Bool→Prop):tfn F_Z11 A_Z11 C_Z11 P_Z11 R_Z11 (p0,p1) K = w_Z11 p0 p1 K := by kernel_rfl
def s_Z11 (p0:Int) (p1:Int):Bool := (s_Z7 p0 (IntKind.i64.wrap ((0:Int) - p1)) p1)
abbrev pre_Z11 (_p0:Int) (_p1:Int):List Prop := []
theorem d_Z11 (p0:Int) (p1:Int) (K:Bool→Prop) (_hp:∀ p∈pre_Z11 p0 p1,p) (h:K (s_Z11 p0 p1)):w_Z11 p0 p1 K := by
 unfold w_Z11
 unfold s_Z11 at h
 exact h
abbrev con_Z11:Con := ⟨P_Z11,R_Z11,fun x => pre_Z11 x.1 x.2,fun x => s_Z11 x.1 x.2⟩
theorem ok_Z11:ConOk Try.prog 83 con_Z11 := okG k_Z11 e_Z11 hC_Z11 fun x hx => tf_of (w_Z11_eq x.1 x.2 _) (d_Z11 x.1 x.2 _ hx rfl)
def C_Z16:Cons := [(83,[],con_Z11)]
theorem hC_Z16:ConsOk Try.prog C_Z16 := cC ok_Z11 <| ConsOk.nil
def w_Z16 (p0:Int) (K:Bool→Prop):Prop := (K (s_Z7 p0 (-10:Int) (10:Int)))
theorem w_Z16_eq (p0:Int) (K:Bool→Prop):tfn F_Z16 A_Z16 C_Z16 P_Z16 R_Z16 p0 K = w_Z16 p0 K := by kernel_rfl
def s_Z16 (p0:Int):Bool := (s_Z7 p0 (-10:Int) (10:Int))
abbrev pre_Z16 (_p0:Int):List Prop := []
theorem d_Z16 (p0:Int) (K:Bool→Prop) (_hp:∀ p∈pre_Z16 p0,p) (h:K (s_Z16 p0)):w_Z16 p0 K := by
 unfold w_Z16
 unfold s_Z16 at h
 exact h
abbrev con_Z16:Con := ⟨P_Z16,R_Z16,fun x => pre_Z16 x,fun x => s_Z16 x⟩
theorem ok_Z16:ConOk Try.prog 82 con_Z16 := okG k_Z16 e_Z16 hC_Z16 fun x hx => tf_of (w_Z16_eq x _) (d_Z16 x _ hx rfl)
def C_Z17:Cons := [(83,[],con_Z11)]
theorem hC_Z17:ConsOk Try.prog C_Z17 := cC ok_Z11 <| ConsOk.nil
def w_Z17 (p0:Int) (K:Bool→Prop):Prop := (K (s_Z7 p0 (-100000:Int) (100000:Int)))
theorem w_Z17_eq (p0:Int) (K:Bool→Prop):tfn F_Z17 A_Z17 C_Z17 P_Z17 R_Z17 p0 K = w_Z17 p0 K := by kernel_rfl
def s_Z17 (p0:Int):Bool := (s_Z7 p0 (-100000:Int) (100000:Int))
abbrev pre_Z17 (_p0:Int):List Prop := []
theorem d_Z17 (p0:Int) (K:Bool→Prop) (_hp:∀ p∈pre_Z17 p0,p) (h:K (s_Z17 p0)):w_Z17 p0 K := by
 unfold w_Z17
 unfold s_Z17 at h
 exact h
abbrev con_Z17:Con := ⟨P_Z17,R_Z17,fun x => pre_Z17 x,fun x => s_Z17 x⟩
theorem ok_Z17:ConOk Try.prog 85 con_Z17 := okG k_Z17 e_Z17 hC_Z17 fun x hx => tf_of (w_Z17_eq x _) (d_Z17 x _ hx rfl)
def C_Z5:Cons := [(66,[],con_Zf),(71,[],con_Za),(84,[],con_Z15),(82,[],con_Z16),(85,[],con_Z17)]
theorem hC_Z5:ConsOk Try.prog C_Z5 := cC ok_Zf <| cC ok_Za <| cC ok_Z15 <| cC ok_Z16 <| cC ok_Z17 <| ConsOk.nil
abbrev q1_Z5 (p0:(List (Int×(Int×(Int×(Int×Int)))))) (y1:gG) := (p0.getD y1.1.toNat (zz0,(zz0,(zz0,(zz0,zz0)))))
abbrev q6_Z5 (p0:(List (Int×(Int×(Int×(Int×Int)))))) (y1:gG) := (s_Z7 (q1_Z5 p0 y1).1 zz0 (1000000000000:Int))
abbrev q2_Z5 (p0:(List (Int×(Int×(Int×(Int×Int)))))) (y1:gG) := (cond (q6_Z5 p0 y1) (s_Z7 (q1_Z5 p0 y1).2.1 (-10:Int) (10:Int)) false)
abbrev q0_Z5 (p0:(List (Int×(Int×(Int×(Int×Int)))))) (y1:gG) := (cond (q2_Z5 p0 y1) (s_Z7 (q1_Z5 p0 y1).2.2.1 (-10:Int) (10:Int)) false)
abbrev q4_Z5 (p0:(List (Int×(Int×(Int×(Int×Int)))))) (y1:gG) := (cond (q0_Z5 p0 y1) (s_Z7 (q1_Z5 p0 y1).2.2.2.1 (-10:Int) (10:Int)) false)
abbrev q3_Z5 (p0:(List (Int×(Int×(Int×(Int×Int)))))) (y1:gG) := ((s_Zf (cond (q4_Z5 p0 y1) (s_Z7 (q1_Z5 p0 y1).2.2.2.2 (-100000:Int) (100000:Int)) false) zz2) :: ((s_Zf (decide ((q1_Z5 p0 y1).1 > y1.2)) (9:Int)) :: ([]:List Int)))
abbrev q5_Z5 (p0:(List (Int×(Int×(Int×(Int×Int)))))) := ((s_Zf (decide ((p0.length:Int) > zz0)) (10:Int)) :: ((s_Zf (decide ((p0.length:Int)≤20)) (8:Int)) :: ([]:List Int)))
def w_Z5 (p0:(List (Int×(Int×(Int×(Int×Int)))))) (K:(Int×Int)→Prop):Prop := ((lenOk (q5_Z5 p0)) ∧(((((v_first (q5_Z5 p0)) != zz0)=true) →(K (zz0,(v_first (q5_Z5 p0))))) ∧((((v_first (q5_Z5 p0)) != zz0)=false) →(∃ n0,(loopP (fun (y1:gG) k2 => ((((decide (y1.1 < (p0.length:Int)))=true) →((zz0≤y1.1) ∧((y1.1 < (p0.length:Int)) ∧((((q6_Z5 p0 y1)=true) →((q6_Z5 p0 y1)=(q6_Z5 p0 y1))) ∧((((q6_Z5 p0 y1)=true) →((q6_Z5 p0 y1)=(q6_Z5 p0 y1))) ∧((((q6_Z5 p0 y1)=true) →((q6_Z5 p0 y1)=(q6_Z5 p0 y1))) ∧(((q6_Z5 p0 y1)=(q6_Z5 p0 y1)) ∧((((q2_Z5 p0 y1)=true) →((q2_Z5 p0 y1)=(q2_Z5 p0 y1))) ∧((((q2_Z5 p0 y1)=true) →((q2_Z5 p0 y1)=(q2_Z5 p0 y1))) ∧((((q2_Z5 p0 y1)=true) →((q2_Z5 p0 y1)=(q2_Z5 p0 y1))) ∧(((q2_Z5 p0 y1)=(q2_Z5 p0 y1)) ∧((((q0_Z5 p0 y1)=true) →((q0_Z5 p0 y1)=(q0_Z5 p0 y1))) ∧((((q0_Z5 p0 y1)=true) →((q0_Z5 p0 y1)=(q0_Z5 p0 y1))) ∧((((q0_Z5 p0 y1)=true) →((q0_Z5 p0 y1)=(q0_Z5 p0 y1))) ∧(((q0_Z5 p0 y1)=(q0_Z5 p0 y1)) ∧((((q4_Z5 p0 y1)=true) →((q4_Z5 p0 y1)=(q4_Z5 p0 y1))) ∧((((q4_Z5 p0 y1)=true) →((q4_Z5 p0 y1)=(q4_Z5 p0 y1))) ∧(((q4_Z5 p0 y1)=(q4_Z5 p0 y1)) ∧((lenOk (q3_Z5 p0 y1)) ∧(((((v_first (q3_Z5 p0 y1)) != zz0)=true) →(K (y1.1,(v_first (q3_Z5 p0 y1))))) ∧((((v_first (q3_Z5 p0 y1)) != zz0)=false) →(k2 ((wi (y1.1 + zz1)),(q1_Z5 p0 y1).1))))))))))))))))))))))) ∧(((decide (y1.1 < (p0.length:Int)))=false) →(K (zz0,zz0))))) n0 (zz0,(-1:Int)))))))
theorem w_Z5_eq (p0:(List (Int×(Int×(Int×(Int×Int)))))) (K:(Int×Int)→Prop):tfn F_Z5 A_Z5 C_Z5 P_Z5 R_Z5 p0 K = w_Z5 p0 K := by kernel_rfl
def st_Z5_0 (p0:(List (Int×(Int×(Int×(Int×Int)))))) (y1:gG):(Int×Int) ⊕ (Int×Int) := (cond (decide (y1.1 < (p0.length:Int))) (cond ((v_first ((s_Zf (cond (cond (cond (cond (s_Z7 (p0.getD y1.1.toNat ((0:Int),((0:Int),((0:Int),(0,0))))).1 (0:Int) (1000000000000:Int)) (s_Z7 (p0.getD y1.1.toNat ((0:Int),((0:Int),((0:Int),(0,0))))).2.1 (-10:Int) (10:Int)) false) (s_Z7 (p0.getD y1.1.toNat ((0:Int),((0:Int),((0:Int),(0,0))))).2.2.1 (-10:Int) (10:Int)) false) (s_Z7 (p0.getD y1.1.toNat ((0:Int),((0:Int),((0:Int),(0,0))))).2.2.2.1 (-10:Int) (10:Int)) false) (s_Z7 (p0.getD y1.1.toNat ((0:Int),((0:Int),((0:Int),(0,0))))).2.2.2.2 (-100000:Int) (100000:Int)) false) (2:Int)) :: ((s_Zf (decide ((p0.getD y1.1.toNat ((0:Int),((0:Int),((0:Int),(0,0))))).1 > y1.2)) (9:Int)) :: ([]:List Int)))) != 0) (Sum.inr (y1.1,(v_first ((s_Zf (cond (cond (cond (cond (s_Z7 (p0.getD y1.1.toNat ((0:Int),((0:Int),((0:Int),(0,0))))).1 (0:Int) (1000000000000:Int)) (s_Z7 (p0.getD y1.1.toNat ((0:Int),((0:Int),((0:Int),(0,0))))).2.1 (-10:Int) (10:Int)) false) (s_Z7 (p0.getD y1.1.toNat ((0:Int),((0:Int),((0:Int),(0,0))))).2.2.1 (-10:Int) (10:Int)) false) (s_Z7 (p0.getD y1.1.toNat ((0:Int),((0:Int),((0:Int),(0,0))))).2.2.2.1 (-10:Int) (10:Int)) false) (s_Z7 (p0.getD y1.1.toNat ((0:Int),((0:Int),((0:Int),(0,0))))).2.2.2.2 (-100000:Int) (100000:Int)) false) (2:Int)) :: ((s_Zf (decide ((p0.getD y1.1.toNat ((0:Int),((0:Int),((0:Int),(0,0))))).1 > y1.2)) (9:Int)) :: ([]:List Int)))))) (Sum.inl ((IntKind.i64.wrap (y1.1 + 1)),(p0.getD y1.1.toNat ((0:Int),((0:Int),((0:Int),(0,0))))).1))) (Sum.inr (0,0)))
abbrev sp_Z5_0 (p0:(List (Int×(Int×(Int×(Int×Int)))))) (y1:gG):List Prop := [(((decide (y1.1 < (p0.length:Int)))=true)→((0:Int)≤y1.1)),(((decide (y1.1 < (p0.length:Int)))=true)→(y1.1 < (p0.length:Int)))]
def s_Z5 (p0:(List (Int×(Int×(Int×(Int×Int)))))):(Int×Int) := (cond ((v_first ((s_Zf (decide ((p0.length:Int) > 0)) (10:Int)) :: ((s_Zf (decide ((p0.length:Int)≤20)) (8:Int)) :: ([]:List Int)))) != 0) ((0:Int),(v_first ((s_Zf (decide ((p0.length:Int) > 0)) (10:Int)) :: ((s_Zf (decide ((p0.length:Int)≤20)) (8:Int)) :: ([]:List Int))))) (lpv (0,0) (st_Z5_0 p0) ((0:Int),(-1:Int))))
abbrev pre_Z5 (p0:(List (Int×(Int×(Int×(Int×Int)))))):List Prop := [((((v_first ((s_Zf (decide ((p0.length:Int) > 0)) (10:Int)) :: ((s_Zf (decide ((p0.length:Int)≤20)) (8:Int)) :: ([]:List Int)))) != 0)=false)→(OkL (st_Z5_0 p0) (sp_Z5_0 p0) ((0:Int),(-1:Int))))]
theorem d_Z5 (p0:(List (Int×(Int×(Int×(Int×Int)))))) (K:(Int×Int)→Prop) (hp:∀ p∈pre_Z5 p0,p) (h:K (s_Z5 p0)):w_Z5 p0 K := by
 unfold w_Z5
 unfold s_Z5 at h
 obtain ⟨hp0,_⟩ := conj_of hp
 exact ⟨(lenOk_of 2 rfl (by decide)),(br' h (fun e0 h => h)
  (fun e0 h => (loop_gen (hp0 e0) h (fun y1 k1 hp h => by
 unfold st_Z5_0 at h; obtain ⟨hp0,hp1,_⟩ := conj_of hp
 exact (br' h (fun e2 h => ⟨(hp0 e2),(hp1 e2),rf,rf,rf,rfl,rf,rf,rf,rfl,rf,rf,rf,rfl,rf,rf,rfl,(lenOk_of 2 rfl (by decide)),(br' h (fun e3 h => h)
  (fun e3 h => h))⟩)
  (fun e2 h => h))))))⟩
theorem tx_first1 {x y:Int} (h:(v_first [x,y] != 0)=false):x = 0∧y = 0 := by
 obtain ⟨h1,h2⟩ := v_first0 (bne0' h)
 exact ⟨h1,(v_first0 h2).1⟩
theorem tx_csh {n:Int} (h:0≤n):v_first [s_Zf (decide (n > 0)) 10,s_Zf (decide (n≤20)) 8]=cond (n == 0) 10 (cond (decide (n > 20)) 8 0) := by
 unfold s_Zf
 rcases int0 n with ⟨h0,_,e0⟩ | ⟨h0,_,e0⟩
 ·subst h0; rfl
 ·rw [e0,decide_eq_true (show n > 0 by omega)]
  rcases dec0 (a := 20) (b := n) with ⟨_,_,_,e1,e2⟩ | ⟨_,_,_,e1,e2⟩ <;> rw [e1,e2] <;> rfl
theorem tx_len {p0:List (Int×Int×Int×Int×Int)} (h:(v_first [s_Zf (decide ((p0.length:Int) > 0)) 10,s_Zf (decide ((p0.length:Int)≤20)) 8] != 0)=false):p0.length≤20 := by
 rw [tx_csh (by omega)] at h
 cases c:decide ((p0.length:Int) > 20)
 ·have := of_decide_eq_false c; omega
 ·rw [c] at h
  cases c2:((p0.length:Int) == 0) <;> rw [c2] at h <;> cases h
theorem v_svalm {x:Int×Int×Int×Int×Int}:cond (cond (cond (cond (s_Z7 x.1 0 1000000000000) (s_Z7 x.2.1 (-10) 10) false) (s_Z7 x.2.2.1 (-10) 10) false) (s_Z7 x.2.2.2.1 (-10) 10) false) (s_Z7 x.2.2.2.2 (-100000) 100000) false = v_sval x := by
 rw [tx_withinG,tx_withinG,tx_withinG,tx_withinG,tx_withinG]
 unfold v_sval
 cases s_Z3 x.1 0 1000000000000 <;> cases s_Z3 x.2.1 (-10) 10 <;> cases s_Z3 x.2.2.1 (-10) 10 <;> cases s_Z3 x.2.2.2.1 (-10) 10 <;> rfl
theorem v_sval_t {x:Int×Int×Int×Int×Int} (h:v_sval x = true):0≤x.1 := by
 unfold v_sval at h
 cases c:s_Z3 x.1 0 1000000000000
 ·rw [c] at h; cases h
 ·exact (tx_within.1 c).1
theorem l_Z5_0 (p0:List (Int×Int×Int×Int×Int)) (hl:p0.length≤20):OkL (st_Z5_0 p0) (sp_Z5_0 p0) (0,-1)∧lpv ((0,0):Int×Int) (st_Z5_0 p0) (0,-1)=v_scan (v_cs1 p0) ((0,0):Int×Int) 0 p0 := by
 refine @for_is Int (Int×Int) (Int×Int) (0,0) (st_Z5_0 p0) (sp_Z5_0 p0) (fun i t => (i,t)) 0 p0.length (fun j t => t = if j = 0 then -1 else (p0.getD (j - 1) (0,0,0,0,0)).1) (fun j _ => v_scan (v_cs1 p0) ((0,0):Int×Int) (j:Int) (p0.drop j)) (by omega) (by omega) ?_ ?_ (-1) rfl
 ·intro t _
  rw [List.drop_length]
  simp only [sp_Z5_0,st_Z5_0,fM,show decide ((p0.length:Int) < (p0.length:Int))=false from decide_eq_false (by omega),cond_false]
  refine ⟨?_,rfl⟩
  and_intros
  all_goals first
   | (intro h; cases h; done)
   | (intro p hp; cases hp)
 ·intro j t _ hj ht
  have hd1:decide ((j:Int) < (p0.length:Int))=true := decide_eq_true (by omega)
  have hw1:IntKind.i64.wrap ((j:Int) + 1)=((j + 1:Nat):Int) := wrap_id (by omega) (by omega)
  rw [drop_getD (0,0,0,0,0) hj]
  have e:v_scan (v_cs1 p0) ((0,0):Int×Int) (j:Int) (p0.getD j (0,0,0,0,0) :: p0.drop (j + 1))=match v_cs1 p0 (j:Int) (p0.getD j (0,0,0,0,0)) with | none => v_scan (v_cs1 p0) ((0,0):Int×Int) ((j:Int) + 1) (p0.drop (j + 1)) | some v => v := by simp only [v_scan]; cases v_cs1 p0 (j:Int) (p0.getD j (0,0,0,0,0)) <;> rfl
  rw [e,show (j:Int) + 1 = ((j + 1:Nat):Int) by omega]
  simp only [sp_Z5_0,st_Z5_0,fM,hd1,cond_true,hw1,Int.toNat_natCast,v_svalm]
  refine ⟨?_,?_⟩
  ·and_intros
   all_goals first
    | (intro p hp; cases hp; done)
    | (intros; omega)
  ·unfold v_cs1
   cases hv:v_sval (p0.getD j (0,0,0,0,0))
   ·exact .inr rfl
   ·have h0 := v_sval_t hv
    rcases Nat.eq_zero_or_pos j with rfl | hp
    ·rw [if_pos rfl] at ht
     rw [ht,decide_eq_true (show (p0.getD 0 (0,0,0,0,0)).1 > -1 by omega)]
     exact .inl ⟨_,rfl,by simp,rfl⟩
    ·rw [if_neg (by omega)] at ht
     rw [show ((j:Int) == 0)=false from beq_eq_false_iff_ne.2 (by omega),show ((j:Int) - 1).toNat = j - 1 by omega,ht]
     cases decide ((p0.getD j (0,0,0,0,0)).1 > (p0.getD (j - 1) (0,0,0,0,0)).1)
     ·exact .inr rfl
     ·exact .inl ⟨_,rfl,by simp,rfl⟩
abbrev t_Z5 (p0:List (Int×Int×Int×Int×Int)):Int×Int := v_cs p0
abbrev qre_Z5 (_p0:List (Int×Int×Int×Int×Int)):List Prop := []
theorem pp_Z5 (p0:List (Int×Int×Int×Int×Int)) (_hq:∀ p∈qre_Z5 p0,p):∀ p∈pre_Z5 p0,p := by
 simp only [pre_Z5,fM]
 refine ⟨fun h => ?_,by simp⟩
 exact (l_Z5_0 p0 (tx_len h)).1
theorem tt_Z5 (p0:List (Int×Int×Int×Int×Int)) (_hq:∀ p∈qre_Z5 p0,p):s_Z5 p0 = t_Z5 p0 := by
 unfold s_Z5 t_Z5 v_cs
 rw [tx_csh (by omega)]
 cases h:decide ((p0.length:Int) > 20)
 ·rw [(l_Z5_0 p0 (by have := of_decide_eq_false h; omega)).2]
  cases ((p0.length:Int) == 0) <;> rfl
 ·cases ((p0.length:Int) == 0) <;> rfl
/-- Valid samples. -/
structure v_sok1 (q:Int×Int×Int×Int×Int):Prop where
 t:0≤q.1∧q.1≤1000000000000
 x : -10≤q.2.1∧q.2.1≤10
 y : -10≤q.2.2.1∧q.2.2.1≤10
 z : -10≤q.2.2.2.1∧q.2.2.2.1≤10
 v : -100000≤q.2.2.2.2∧q.2.2.2.2≤100000
structure v_smp (l:List (Int×Int×Int×Int×Int)):Prop where
 ne:l ≠ []
 len:l.length≤20
 ok:∀ x∈l,v_sok1 x
 asc:∀ k,0 < k→k < l.length→(l.getD (k - 1) (0,0,0,0,0)).1 < (l.getD k (0,0,0,0,0)).1
theorem v_sval_iff {x:Int×Int×Int×Int×Int}:v_sval x = true ↔ v_sok1 x := by
 unfold v_sval
 constructor
 ·intro h
  cases c1:s_Z3 x.1 0 1000000000000 <;> cases c2:s_Z3 x.2.1 (-10) 10 <;> cases c3:s_Z3 x.2.2.1 (-10) 10 <;> cases c4:s_Z3 x.2.2.2.1 (-10) 10 <;> cases c5:s_Z3 x.2.2.2.2 (-100000) 100000 <;> rw [c1,c2,c3,c4,c5] at h <;> try (cases h; done)
  exact ⟨tx_within.1 c1,tx_within.1 c2,tx_within.1 c3,tx_within.1 c4,tx_within.1 c5⟩
 ·rintro ⟨h1,h2,h3,h4,h5⟩
  rw [tx_within.2 h1,tx_within.2 h2,tx_within.2 h3,tx_within.2 h4,tx_within.2 h5]; rfl
theorem v_cs1_none {l:List (Int×Int×Int×Int×Int)} {k:Nat} {x:Int×Int×Int×Int×Int}:v_cs1 l (k:Int) x = none ↔ v_sok1 x∧(0 < k→(l.getD (k - 1) (0,0,0,0,0)).1 < x.1) := by
 unfold v_cs1
 have hk:((k:Int) - 1).toNat = k - 1 := by omega
 rw [hk]
 cases hv:v_sval x
 ·simp only [cond_false,reduceCtorEq,false_iff]
  rintro ⟨h,_⟩
  rw [v_sval_iff.2 h] at hv; cases hv
 ·have hs := v_sval_iff.1 hv
  rcases int0 (k:Int) with ⟨h0,_,e⟩ | ⟨h0,_,e⟩ <;> rw [e]
  ·simp only [cond_true,true_iff]
   exact ⟨hs,fun h => by omega⟩
  ·simp only [cond_true,cond_false]
   cases c:decide (x.1 > (l.getD (k - 1) (0,0,0,0,0)).1)
   ·have := of_decide_eq_false c
    simp only [cond_false,reduceCtorEq,false_iff]
    rintro ⟨_,h⟩
    have := h (by omega)
    omega
   ·have := of_decide_eq_true c
    simp only [cond_true,true_iff]
    exact ⟨hs,fun _ => this⟩
theorem v_cs_iff {l:List (Int×Int×Int×Int×Int)}:(v_cs l).2 = 0 ↔ v_smp l := by
 constructor
 ·intro h
  unfold v_cs at h
  rcases int0 (l.length:Int) with ⟨_,_,e0⟩ | ⟨h0,_,e0⟩
  ·rw [e0] at h; cases h
  rw [e0] at h
  rcases dec0 (a := 20) (b := (l.length:Int)) with ⟨_,_,_,_,e1⟩ | ⟨h1,_,_,_,e1⟩
  ·rw [e1] at h; cases h
  rw [e1] at h
  simp only [cond_false] at h
  have key := v_scan_end (f := v_cs1 l) (e := ((0,0):Int×Int)) (P := fun (r:gG) => r.2 = 0) l 0 h (fun j x v _ hv hv0 => by
   unfold v_cs1 at hv
   cases c1:v_sval x <;> rw [c1] at hv
   ·simp only [cond_false,sJ] at hv; subst hv; cases hv0
   ·cases c2:cond (j == 0) true (decide (x.1 > (l.getD (j - 1).toNat (0,0,0,0,0)).1)) <;> rw [c2] at hv
    ·simp only [cond_true,cond_false,sJ] at hv; subst hv; cases hv0
    ·cases hv)
  have key2:∀ k,(hk:k < l.length)→v_sok1 (l.getD k (0,0,0,0,0))∧(0 < k→(l.getD (k - 1) (0,0,0,0,0)).1 < (l.getD k (0,0,0,0,0)).1) := fun k hk => by
   have := key k hk
   rw [Int.zero_add] at this
   rw [gd_get (0,0,0,0,0) hk]
   exact v_cs1_none.1 this
  refine ⟨by rintro rfl; exact h0 rfl,by omega,fun x hx => ?_,fun k h0 hk => (key2 k hk).2 h0⟩
  obtain ⟨k,hk,rfl⟩ := List.getElem_of_mem hx
  rw [← gd_get (0,0,0,0,0) hk]
  exact (key2 k hk).1
 ·intro h
  have h0:0 < l.length := List.length_pos_iff.2 h.ne
  have hl := h.len
  unfold v_cs
  rw [show ((l.length:Int) == 0)=false from beq_eq_false_iff_ne.2 (by omega),decide_eq_false (show ¬ (l.length:Int) > 20 by omega)]
  simp only [cond_false]
  have key:∀ (r:List (Int×Int×Int×Int×Int)) (k:Nat),l.drop k = r→v_scan (v_cs1 l) ((0,0):Int×Int) (k:Int) r = (0,0) := by
   intro r
   induction r with
   | nil => intro k _; rfl
   | cons x r ih =>
    intro k e
    have hk:k < l.length := by
     rcases Nat.lt_or_ge k l.length with g | g
     ·exact g
     ·rw [List.drop_eq_nil_of_le g] at e; cases e
    rw [drop_getD (0,0,0,0,0) hk] at e
    simp only [List.cons.injEq] at e
    obtain ⟨e1,e2⟩ := e
    unfold v_scan
    rw [v_cs1_none.2 ⟨e1 ▸ h.ok _ (getD_mem' _ hk),fun h0 => e1 ▸ h.asc k h0 hk⟩]
    have := ih (k + 1) e2
    rw [Int.natCast_add] at this
    exact this
  rw [show v_scan (v_cs1 l) ((0,0):Int×Int) 0 l = (0,0) from key l 0 rfl]

abbrev con_Z5:Con := ⟨P_Z5,R_Z5,fun x => qre_Z5 x,fun x => t_Z5 x⟩
theorem ok_Z5:ConOk Try.prog 32 con_Z5 := okG k_Z5 e_Z5 hC_Z5 fun x hx => tf_of (w_Z5_eq x _) (d_Z5 x _ (pp_Z5 x hx) (tt_Z5 x hx))
def C_Zj:Cons := []
theorem hC_Zj:ConsOk Try.prog C_Zj := ConsOk.nil
abbrev q0_Zj (p0:(List (Int×(Int×(Int×(Int×Int)))))) (p1:Int) := (p0.getD p1.toNat (zz0,(zz0,(zz0,(zz0,zz0)))))
def w_Zj (p0:(List (Int×(Int×(Int×(Int×Int)))))) (p1:Int) (K:(Int×(Int×(Int×(Int×(Int×(Int×(Int×Int)))))))→Prop):Prop := ((zz0≤p1) ∧((p1 < (p0.length:Int)) ∧((zz0≤(max zz0 (wi (p1 - zz1)))) ∧(((max zz0 (wi (p1 - zz1))) < (p0.length:Int)) ∧(K (zz1,((q0_Zj p0 p1).2.1,((q0_Zj p0 p1).2.2.1,((q0_Zj p0 p1).2.2.2.1,((wi ((q0_Zj p0 p1).2.1 * (q0_Zj p0 p1).2.1)),((wi ((q0_Zj p0 p1).2.1 * (q0_Zj p0 p1).2.2.1)),((wi ((q0_Zj p0 p1).2.1 - (p0.getD (Int.toNat (max zz0 (wi (p1 - zz1)))) (zz0,(zz0,(zz0,(zz0,zz0))))).2.1)),(wi ((q0_Zj p0 p1).2.2.1 - (p0.getD (Int.toNat (max zz0 (wi (p1 - zz1)))) (zz0,(zz0,(zz0,(zz0,zz0))))).2.2.1))))))))))))))
theorem w_Zj_eq (p0:(List (Int×(Int×(Int×(Int×Int)))))) (p1:Int) (K:(Int×(Int×(Int×(Int×(Int×(Int×(Int×Int)))))))→Prop):tfn F_Zj A_Zj C_Zj P_Zj R_Zj (p0,p1) K = w_Zj p0 p1 K := by kernel_rfl
def s_Zj (p0:(List (Int×(Int×(Int×(Int×Int)))))) (p1:Int):(Int×(Int×(Int×(Int×(Int×(Int×(Int×Int))))))) := ((1:Int),((p0.getD p1.toNat ((0:Int),((0:Int),((0:Int),(0,0))))).2.1,((p0.getD p1.toNat ((0:Int),((0:Int),((0:Int),(0,0))))).2.2.1,((p0.getD p1.toNat ((0:Int),((0:Int),((0:Int),(0,0))))).2.2.2.1,((IntKind.i64.wrap ((p0.getD p1.toNat ((0:Int),((0:Int),((0:Int),(0,0))))).2.1 * (p0.getD p1.toNat ((0:Int),((0:Int),((0:Int),(0,0))))).2.1)),((IntKind.i64.wrap ((p0.getD p1.toNat ((0:Int),((0:Int),((0:Int),(0,0))))).2.1 * (p0.getD p1.toNat ((0:Int),((0:Int),((0:Int),(0,0))))).2.2.1)),((IntKind.i64.wrap ((p0.getD p1.toNat ((0:Int),((0:Int),((0:Int),(0,0))))).2.1 - (p0.getD (Int.toNat (max (0:Int) (IntKind.i64.wrap (p1 - 1)))) ((0:Int),((0:Int),((0:Int),(0,0))))).2.1)),(IntKind.i64.wrap ((p0.getD p1.toNat ((0:Int),((0:Int),((0:Int),(0,0))))).2.2.1 - (p0.getD (Int.toNat (max (0:Int) (IntKind.i64.wrap (p1 - 1)))) ((0:Int),((0:Int),((0:Int),(0,0))))).2.2.1)))))))))
abbrev pre_Zj (p0:(List (Int×(Int×(Int×(Int×Int)))))) (p1:Int):List Prop := [((0:Int)≤p1),(p1 < (p0.length:Int)),((0:Int)≤(max (0:Int) (IntKind.i64.wrap (p1 - 1)))),((max (0:Int) (IntKind.i64.wrap (p1 - 1))) < (p0.length:Int))]
theorem d_Zj (p0:(List (Int×(Int×(Int×(Int×Int)))))) (p1:Int) (K:(Int×(Int×(Int×(Int×(Int×(Int×(Int×Int)))))))→Prop) (hp:∀ p∈pre_Zj p0 p1,p) (h:K (s_Zj p0 p1)):w_Zj p0 p1 K := by
 unfold w_Zj
 unfold s_Zj at h
 obtain ⟨hp0,hp1,hp2,hp3,_⟩ := conj_of hp
 exact ⟨(hp0),(hp1),(hp2),(hp3),h⟩
/-- The terms of a sample. -/
def v_tms (l:List (Int×Int×Int×Int×Int)) (i:Nat):Int×Int×Int×Int×Int×Int×Int×Int := (1,(l.getD i (0,0,0,0,0)).2.1,(l.getD i (0,0,0,0,0)).2.2.1,(l.getD i (0,0,0,0,0)).2.2.2.1,(l.getD i (0,0,0,0,0)).2.1 * (l.getD i (0,0,0,0,0)).2.1,(l.getD i (0,0,0,0,0)).2.1 * (l.getD i (0,0,0,0,0)).2.2.1,
 (l.getD i (0,0,0,0,0)).2.1 - (l.getD (i - 1) (0,0,0,0,0)).2.1,(l.getD i (0,0,0,0,0)).2.2.1 - (l.getD (i - 1) (0,0,0,0,0)).2.2.1)
theorem v_m10 {x y:Int} (hx : -10≤x∧x≤10) (hy : -10≤y∧y≤10) : -100≤x * y∧x * y≤100 := by
 have h1 := mul_abs (x := x) (y := y) (a := 10) (b := 10) hx.1 hx.2 hy.1 hy.2
 omega
theorem v_tms_w {l:List (Int×Int×Int×Int×Int)} (h:v_smp l) {i:Nat} (hi:i < l.length):IntKind.i64.wrap ((l.getD i (0,0,0,0,0)).2.1 * (l.getD i (0,0,0,0,0)).2.1)=(l.getD i (0,0,0,0,0)).2.1 * (l.getD i (0,0,0,0,0)).2.1∧IntKind.i64.wrap ((l.getD i (0,0,0,0,0)).2.1 * (l.getD i (0,0,0,0,0)).2.2.1)=(l.getD i (0,0,0,0,0)).2.1 * (l.getD i (0,0,0,0,0)).2.2.1 ∧
  IntKind.i64.wrap ((l.getD i (0,0,0,0,0)).2.1 - (l.getD (i - 1) (0,0,0,0,0)).2.1)=(l.getD i (0,0,0,0,0)).2.1 - (l.getD (i - 1) (0,0,0,0,0)).2.1∧IntKind.i64.wrap ((l.getD i (0,0,0,0,0)).2.2.1 - (l.getD (i - 1) (0,0,0,0,0)).2.2.1)=(l.getD i (0,0,0,0,0)).2.2.1 - (l.getD (i - 1) (0,0,0,0,0)).2.2.1 := by
 have a := h.ok _ (getD_mem' (0,0,0,0,0) hi)
 have b := h.ok _ (getD_mem' (0,0,0,0,0) (show i - 1 < l.length by omega))
 have ax := a.x
 have ay := a.y
 have bx := b.x
 have bY := b.y
 have m1 := v_m10 ax ax
 have m2 := v_m10 ax ay
 exact ⟨wrap_id (by omega) (by omega),wrap_id (by omega) (by omega),wrap_id (by omega) (by omega),wrap_id (by omega) (by omega)⟩
abbrev t_Zj (p0:List (Int×Int×Int×Int×Int)) (p1:Int):Int×Int×Int×Int×Int×Int×Int×Int := v_tms p0 p1.toNat
abbrev qre_Zj (p0:List (Int×Int×Int×Int×Int)) (p1:Int):List Prop := [v_smp p0,0≤p1,p1 < p0.length]
theorem pp_Zj (p0:List (Int×Int×Int×Int×Int)) (p1:Int) (hq:∀ p∈qre_Zj p0 p1,p):∀ p∈pre_Zj p0 p1,p := by
 obtain ⟨h1,h2,h3,_⟩ := conj_of hq
 have hl := h1.len
 have hw:IntKind.i64.wrap (p1 - 1)=p1 - 1 := wrap_id (by omega) (by omega)
 simp only [pre_Zj,fM,hw]
 and_intros
 all_goals first | omega | (intro p hp; cases hp)
theorem tt_Zj (p0:List (Int×Int×Int×Int×Int)) (p1:Int) (hq:∀ p∈qre_Zj p0 p1,p):s_Zj p0 p1 = t_Zj p0 p1 := by
 obtain ⟨h1,h2,h3,_⟩ := conj_of hq
 have hl := h1.len
 have hw:IntKind.i64.wrap (p1 - 1)=p1 - 1 := wrap_id (by omega) (by omega)
 obtain ⟨w1,w2,w3,w4⟩ := v_tms_w h1 (show p1.toNat < p0.length by omega)
 unfold s_Zj t_Zj v_tms
 rw [hw,show (max 0 (p1 - 1)).toNat = p1.toNat - 1 by omega,w1,w2,w3,w4]

abbrev con_Zj:Con := ⟨P_Zj,R_Zj,fun x => qre_Zj x.1 x.2,fun x => t_Zj x.1 x.2⟩
theorem ok_Zj:ConOk Try.prog 87 con_Zj := okG k_Zj e_Zj hC_Zj fun x hx => tf_of (w_Zj_eq x.1 x.2 _) (d_Zj x.1 x.2 _ (pp_Zj x.1 x.2 hx) (tt_Zj x.1 x.2 hx))
def C_Ze:Cons := []
theorem hC_Ze:ConsOk Try.prog C_Ze := ConsOk.nil
abbrev q0_Ze (p0:(List (Int×(Int×(Int×(Int×Int)))))) (p1:Int) := (p0.getD p1.toNat (zz0,(zz0,(zz0,(zz0,zz0)))))
def w_Ze (p0:(List (Int×(Int×(Int×(Int×Int)))))) (p1:Int) (K:(Int×(Int×(Int×(Int×(Int×(Int×(Int×Int)))))))→Prop):Prop := ((zz0≤p1) ∧((p1 < (p0.length:Int)) ∧((((decide (p1 > zz0))=true) →((zz0≤(wi (p1 - zz1))) ∧(((wi (p1 - zz1)) < (p0.length:Int)) ∧((zz0≤(wi (p1 - zz1))) ∧(((wi (p1 - zz1)) < (p0.length:Int)) ∧(K (zz1,((q0_Ze p0 p1).2.1,((q0_Ze p0 p1).2.2.1,((q0_Ze p0 p1).2.2.2.1,((wi ((q0_Ze p0 p1).2.1 * (q0_Ze p0 p1).2.1)),((wi ((q0_Ze p0 p1).2.1 * (q0_Ze p0 p1).2.2.1)),((wi ((q0_Ze p0 p1).2.1 - (p0.getD (Int.toNat (wi (p1 - zz1))) (zz0,(zz0,(zz0,(zz0,zz0))))).2.1)),(wi ((q0_Ze p0 p1).2.2.1 - (p0.getD (Int.toNat (wi (p1 - zz1))) (zz0,(zz0,(zz0,(zz0,zz0))))).2.2.1))))))))))))))) ∧(((decide (p1 > zz0))=false) →(K (zz1,((q0_Ze p0 p1).2.1,((q0_Ze p0 p1).2.2.1,((q0_Ze p0 p1).2.2.2.1,((wi ((q0_Ze p0 p1).2.1 * (q0_Ze p0 p1).2.1)),((wi ((q0_Ze p0 p1).2.1 * (q0_Ze p0 p1).2.2.1)),(zz0,zz0))))))))))))
theorem w_Ze_eq (p0:(List (Int×(Int×(Int×(Int×Int)))))) (p1:Int) (K:(Int×(Int×(Int×(Int×(Int×(Int×(Int×Int)))))))→Prop):tfn F_Ze A_Ze C_Ze P_Ze R_Ze (p0,p1) K = w_Ze p0 p1 K := by kernel_rfl
def s_Ze (p0:(List (Int×(Int×(Int×(Int×Int)))))) (p1:Int):(Int×(Int×(Int×(Int×(Int×(Int×(Int×Int))))))) := (cond (decide (p1 > 0)) ((1:Int),((p0.getD p1.toNat ((0:Int),((0:Int),((0:Int),(0,0))))).2.1,((p0.getD p1.toNat ((0:Int),((0:Int),((0:Int),(0,0))))).2.2.1,((p0.getD p1.toNat ((0:Int),((0:Int),((0:Int),(0,0))))).2.2.2.1,((IntKind.i64.wrap ((p0.getD p1.toNat ((0:Int),((0:Int),((0:Int),(0,0))))).2.1 * (p0.getD p1.toNat ((0:Int),((0:Int),((0:Int),(0,0))))).2.1)),((IntKind.i64.wrap ((p0.getD p1.toNat ((0:Int),((0:Int),((0:Int),(0,0))))).2.1 * (p0.getD p1.toNat ((0:Int),((0:Int),((0:Int),(0,0))))).2.2.1)),((IntKind.i64.wrap ((p0.getD p1.toNat ((0:Int),((0:Int),((0:Int),(0,0))))).2.1 - (p0.getD (Int.toNat (IntKind.i64.wrap (p1 - 1))) ((0:Int),((0:Int),((0:Int),(0,0))))).2.1)),(IntKind.i64.wrap ((p0.getD p1.toNat ((0:Int),((0:Int),((0:Int),(0,0))))).2.2.1 - (p0.getD (Int.toNat (IntKind.i64.wrap (p1 - 1))) ((0:Int),((0:Int),((0:Int),(0,0))))).2.2.1))))))))) ((1:Int),((p0.getD p1.toNat ((0:Int),((0:Int),((0:Int),(0,0))))).2.1,((p0.getD p1.toNat ((0:Int),((0:Int),((0:Int),(0,0))))).2.2.1,((p0.getD p1.toNat ((0:Int),((0:Int),((0:Int),(0,0))))).2.2.2.1,((IntKind.i64.wrap ((p0.getD p1.toNat ((0:Int),((0:Int),((0:Int),(0,0))))).2.1 * (p0.getD p1.toNat ((0:Int),((0:Int),((0:Int),(0,0))))).2.1)),((IntKind.i64.wrap ((p0.getD p1.toNat ((0:Int),((0:Int),((0:Int),(0,0))))).2.1 * (p0.getD p1.toNat ((0:Int),((0:Int),((0:Int),(0,0))))).2.2.1)),(0,0))))))))
abbrev pre_Ze (p0:(List (Int×(Int×(Int×(Int×Int)))))) (p1:Int):List Prop := [((0:Int)≤p1),(p1 < (p0.length:Int)),(((decide (p1 > 0))=true)→((0:Int)≤(IntKind.i64.wrap (p1 - 1)))),(((decide (p1 > 0))=true)→((IntKind.i64.wrap (p1 - 1)) < (p0.length:Int)))]
theorem d_Ze (p0:(List (Int×(Int×(Int×(Int×Int)))))) (p1:Int) (K:(Int×(Int×(Int×(Int×(Int×(Int×(Int×Int)))))))→Prop) (hp:∀ p∈pre_Ze p0 p1,p) (h:K (s_Ze p0 p1)):w_Ze p0 p1 K := by
 unfold w_Ze
 unfold s_Ze at h
 obtain ⟨hp0,hp1,hp2,hp3,_⟩ := conj_of hp
 exact ⟨(hp0),(hp1),(br' h (fun e0 h => ⟨(hp2 e0),(hp3 e0),(hp2 e0),(hp3 e0),h⟩)
  (fun e0 h => h))⟩
abbrev t_Ze (p0:List (Int×Int×Int×Int×Int)) (p1:Int):Int×Int×Int×Int×Int×Int×Int×Int := v_tms p0 p1.toNat
abbrev qre_Ze (p0:List (Int×Int×Int×Int×Int)) (p1:Int):List Prop := [v_smp p0,0≤p1,p1 < p0.length]
theorem pp_Ze (p0:List (Int×Int×Int×Int×Int)) (p1:Int) (hq:∀ p∈qre_Ze p0 p1,p):∀ p∈pre_Ze p0 p1,p := by
 obtain ⟨h1,h2,h3,_⟩ := conj_of hq
 have hl := h1.len
 have hw:IntKind.i64.wrap (p1 - 1)=p1 - 1 := wrap_id (by omega) (by omega)
 simp only [pre_Ze,fM,hw,decide_eq_true_eq]
 and_intros
 all_goals first | (intros; omega) | (intro p hp; cases hp)
theorem tt_Ze (p0:List (Int×Int×Int×Int×Int)) (p1:Int) (hq:∀ p∈qre_Ze p0 p1,p):s_Ze p0 p1 = t_Ze p0 p1 := by
 obtain ⟨h1,h2,h3,_⟩ := conj_of hq
 have hl := h1.len
 have hw:IntKind.i64.wrap (p1 - 1)=p1 - 1 := wrap_id (by omega) (by omega)
 obtain ⟨w1,w2,w3,w4⟩ := v_tms_w h1 (show p1.toNat < p0.length by omega)
 unfold s_Ze t_Ze v_tms
 rw [hw,w1,w2]
 by_cases h0:p1 > 0
 ·rw [decide_eq_true h0,cond_true,show (p1 - 1).toNat = p1.toNat - 1 by omega,w3,w4]
 ·rw [decide_eq_false h0,cond_false,show p1.toNat - 1 = p1.toNat by omega,Int.sub_self,Int.sub_self]

abbrev con_Ze:Con := ⟨P_Ze,R_Ze,fun x => qre_Ze x.1 x.2,fun x => t_Ze x.1 x.2⟩
theorem ok_Ze:ConOk Try.prog 23 con_Ze := okG k_Ze e_Ze hC_Ze fun x hx => tf_of (w_Ze_eq x.1 x.2 _) (d_Ze x.1 x.2 _ (pp_Ze x.1 x.2 hx) (tt_Ze x.1 x.2 hx))
def C_Z4:Cons := [(87,[],con_Zj)]
theorem hC_Z4:ConsOk Try.prog C_Z4 := cC ok_Zj <| ConsOk.nil
abbrev q0_Z4 (p0:(List (Int×(Int×(Int×(Int×Int)))))) (p1:gF) (y4:(Int×((Int×(Int×(Int×(Int×(Int×(Int×(Int×(Int×(Int×(Int×(Int×(Int×(Int×(Int×(Int×Int)))))))))))))))×(Int×(Int×(Int×Int)))))) (y7:(Int×((Int×(Int×(Int×(Int×(Int×(Int×(Int×(Int×(Int×(Int×(Int×(Int×(Int×(Int×(Int×Int)))))))))))))))×(Int×(Int×(Int×Int)))))) (y10:(Int×(Int×(Int×(Int×(Int×(Int×(Int×(Int×(Int×(Int×(Int×(Int×(Int×(Int×(Int×(Int×Int))))))))))))))))) := ((List.getD ((v_tms p0 y7.1.toNat).1 :: ((v_tms p0 y7.1.toNat).2.1 :: ((v_tms p0 y7.1.toNat).2.2.1 :: ((v_tms p0 y7.1.toNat).2.2.2.1 :: ((v_tms p0 y7.1.toNat).2.2.2.2.1 :: ((v_tms p0 y7.1.toNat).2.2.2.2.2.1 :: ((v_tms p0 y7.1.toNat).2.2.2.2.2.2.1 :: ((v_tms p0 y7.1.toNat).2.2.2.2.2.2.2 :: ([]:List Int))))))))) (Int.toNat (p1.getD y4.1.toNat zz0)) zz0) * (List.getD ((v_tms p0 y7.1.toNat).1 :: ((v_tms p0 y7.1.toNat).2.1 :: ((v_tms p0 y7.1.toNat).2.2.1 :: ((v_tms p0 y7.1.toNat).2.2.2.1 :: ((v_tms p0 y7.1.toNat).2.2.2.2.1 :: ((v_tms p0 y7.1.toNat).2.2.2.2.2.1 :: ((v_tms p0 y7.1.toNat).2.2.2.2.2.2.1 :: ((v_tms p0 y7.1.toNat).2.2.2.2.2.2.2 :: ([]:List Int))))))))) (Int.toNat (p1.getD y10.1.toNat zz0)) zz0))
abbrev q1_Z4 (y4:(Int×((Int×(Int×(Int×(Int×(Int×(Int×(Int×(Int×(Int×(Int×(Int×(Int×(Int×(Int×(Int×Int)))))))))))))))×(Int×(Int×(Int×Int)))))) (y10:(Int×(Int×(Int×(Int×(Int×(Int×(Int×(Int×(Int×(Int×(Int×(Int×(Int×(Int×(Int×(Int×Int))))))))))))))))) := (List.getD ((List.getD (y10.2.1 :: (y10.2.2.2.2.2.1 :: (y10.2.2.2.2.2.2.2.2.2.1 :: (y10.2.2.2.2.2.2.2.2.2.2.2.2.2.1 :: ([]:List Int))))) y4.1.toNat zz0) :: ((List.getD (y10.2.2.1 :: (y10.2.2.2.2.2.2.1 :: (y10.2.2.2.2.2.2.2.2.2.2.1 :: (y10.2.2.2.2.2.2.2.2.2.2.2.2.2.2.1 :: ([]:List Int))))) y4.1.toNat zz0) :: ((List.getD (y10.2.2.2.1 :: (y10.2.2.2.2.2.2.2.1 :: (y10.2.2.2.2.2.2.2.2.2.2.2.1 :: (y10.2.2.2.2.2.2.2.2.2.2.2.2.2.2.2.1 :: ([]:List Int))))) y4.1.toNat zz0) :: ((List.getD (y10.2.2.2.2.1 :: (y10.2.2.2.2.2.2.2.2.1 :: (y10.2.2.2.2.2.2.2.2.2.2.2.2.1 :: (y10.2.2.2.2.2.2.2.2.2.2.2.2.2.2.2.2 :: ([]:List Int))))) y4.1.toNat zz0) :: ([]:List Int))))) y10.1.toNat zz0)
abbrev q2_Z4 (p0:(List (Int×(Int×(Int×(Int×Int)))))) (p1:gF) (y4:(Int×((Int×(Int×(Int×(Int×(Int×(Int×(Int×(Int×(Int×(Int×(Int×(Int×(Int×(Int×(Int×Int)))))))))))))))×(Int×(Int×(Int×Int)))))) (y7:(Int×((Int×(Int×(Int×(Int×(Int×(Int×(Int×(Int×(Int×(Int×(Int×(Int×(Int×(Int×(Int×Int)))))))))))))))×(Int×(Int×(Int×Int)))))) := ((List.getD ((v_tms p0 y7.1.toNat).1 :: ((v_tms p0 y7.1.toNat).2.1 :: ((v_tms p0 y7.1.toNat).2.2.1 :: ((v_tms p0 y7.1.toNat).2.2.2.1 :: ((v_tms p0 y7.1.toNat).2.2.2.2.1 :: ((v_tms p0 y7.1.toNat).2.2.2.2.2.1 :: ((v_tms p0 y7.1.toNat).2.2.2.2.2.2.1 :: ((v_tms p0 y7.1.toNat).2.2.2.2.2.2.2 :: ([]:List Int))))))))) (Int.toNat (p1.getD y4.1.toNat zz0)) zz0) * (p0.getD y7.1.toNat (zz0,(zz0,(zz0,(zz0,zz0))))).2.2.2.2)
abbrev q3_Z4 := (Int×(Int×(Int×(Int×(Int×(Int×(Int×(Int×(Int×(Int×(Int×(Int×(Int×(Int×(Int×Int)))))))))))))))
abbrev q4_Z4 (y4:(Int×((Int×(Int×(Int×(Int×(Int×(Int×(Int×(Int×(Int×(Int×(Int×(Int×(Int×(Int×(Int×Int)))))))))))))))×(Int×(Int×(Int×Int)))))) (y7:(Int×((Int×(Int×(Int×(Int×(Int×(Int×(Int×(Int×(Int×(Int×(Int×(Int×(Int×(Int×(Int×Int)))))))))))))))×(Int×(Int×(Int×Int)))))) := (List.getD (y7.2.2.1 :: (y7.2.2.2.1 :: (y7.2.2.2.2.1 :: (y7.2.2.2.2.2 :: ([]:List Int))))) y4.1.toNat zz0)
def w_Z4 (p0:(List (Int×(Int×(Int×(Int×Int)))))) (p1:gF) (K:(((Int×(Int×(Int×Int)))×((Int×(Int×(Int×Int)))×((Int×(Int×(Int×Int)))×(Int×(Int×(Int×Int))))))×(Int×(Int×(Int×Int))))→Prop):Prop := (∃ n0,(loopP (fun (y1:(Int×(q3_Z4))) k2 => ((((decide (y1.1 < 4))=true) →((zz0≤y1.1) ∧((y1.1 < 4) ∧((zz0≤y1.1) ∧((y1.1 < 4) ∧(k2 ((wi (y1.1 + zz1)),((cond ((decide (y1.1 = zz0)) && (decide (y1.1 = zz0))) zz1 y1.2.1),((cond ((decide (y1.1 = zz1)) && (decide (y1.1 = zz0))) zz1 y1.2.2.1),((cond ((decide (y1.1 = zz2)) && (decide (y1.1 = zz0))) zz1 y1.2.2.2.1),((cond ((decide (y1.1 = zz3)) && (decide (y1.1 = zz0))) zz1 y1.2.2.2.2.1),((cond ((decide (y1.1 = zz0)) && (decide (y1.1 = zz1))) zz1 y1.2.2.2.2.2.1),((cond ((decide (y1.1 = zz1)) && (decide (y1.1 = zz1))) zz1 y1.2.2.2.2.2.2.1),((cond ((decide (y1.1 = zz2)) && (decide (y1.1 = zz1))) zz1 y1.2.2.2.2.2.2.2.1),((cond ((decide (y1.1 = zz3)) && (decide (y1.1 = zz1))) zz1 y1.2.2.2.2.2.2.2.2.1),((cond ((decide (y1.1 = zz0)) && (decide (y1.1 = zz2))) zz1 y1.2.2.2.2.2.2.2.2.2.1),((cond ((decide (y1.1 = zz1)) && (decide (y1.1 = zz2))) zz1 y1.2.2.2.2.2.2.2.2.2.2.1),((cond ((decide (y1.1 = zz2)) && (decide (y1.1 = zz2))) zz1 y1.2.2.2.2.2.2.2.2.2.2.2.1),((cond ((decide (y1.1 = zz3)) && (decide (y1.1 = zz2))) zz1 y1.2.2.2.2.2.2.2.2.2.2.2.2.1),((cond ((decide (y1.1 = zz0)) && (decide (y1.1 = zz3))) zz1 y1.2.2.2.2.2.2.2.2.2.2.2.2.2.1),((cond ((decide (y1.1 = zz1)) && (decide (y1.1 = zz3))) zz1 y1.2.2.2.2.2.2.2.2.2.2.2.2.2.2.1),((cond ((decide (y1.1 = zz2)) && (decide (y1.1 = zz3))) zz1 y1.2.2.2.2.2.2.2.2.2.2.2.2.2.2.2.1),(cond ((decide (y1.1 = zz3)) && (decide (y1.1 = zz3))) zz1 y1.2.2.2.2.2.2.2.2.2.2.2.2.2.2.2.2))))))))))))))))))))))) ∧(((decide (y1.1 < 4))=false) →(∃ n3,(loopP (fun (y4:(Int×((q3_Z4)×(Int×(Int×(Int×Int)))))) k5 => ((((decide (y4.1 < (p1.length:Int)))=true) →((zz0≤y4.1) ∧((y4.1 < (p1.length:Int)) ∧((zz0≤y4.1) ∧((y4.1 < 4) ∧((zz0≤y4.1) ∧((y4.1 < 4) ∧(∃ n6,(loopP (fun (y7:(Int×((q3_Z4)×(Int×(Int×(Int×Int)))))) k8 => ((((decide (y7.1 < (p0.length:Int)))=true) →((v_smp p0) ∧((zz0≤y7.1) ∧((y7.1 < (p0.length:Int)) ∧((zz0≤y4.1) ∧((y4.1 < 4) ∧((zz0≤(p1.getD y4.1.toNat zz0)) ∧(((p1.getD y4.1.toNat zz0) < 8) ∧((zz0≤y7.1) ∧((y7.1 < (p0.length:Int)) ∧((zz0≤y4.1) ∧((y4.1 < 4) ∧(∃ n9,(loopP (fun (y10:(Int×(q3_Z4))) k11 => ((((decide (y10.1 < (p1.length:Int)))=true) →((zz0≤y10.1) ∧((y10.1 < (p1.length:Int)) ∧((zz0≤y4.1) ∧((y4.1 < 4) ∧((zz0≤y10.1) ∧((y10.1 < 4) ∧((zz0≤(p1.getD y4.1.toNat zz0)) ∧(((p1.getD y4.1.toNat zz0) < 8) ∧((zz0≤(p1.getD y10.1.toNat zz0)) ∧(((p1.getD y10.1.toNat zz0) < 8) ∧((zz0≤y4.1) ∧((y4.1 < 4) ∧((zz0≤y10.1) ∧((y10.1 < 4) ∧(k11 ((wi (y10.1 + zz1)),((cond ((decide (y10.1 = zz0)) && (decide (y4.1 = zz0))) (wi ((q1_Z4 y4 y10) + (wi (q0_Z4 p0 p1 y4 y7 y10)))) y10.2.1),((cond ((decide (y10.1 = zz1)) && (decide (y4.1 = zz0))) (wi ((q1_Z4 y4 y10) + (wi (q0_Z4 p0 p1 y4 y7 y10)))) y10.2.2.1),((cond ((decide (y10.1 = zz2)) && (decide (y4.1 = zz0))) (wi ((q1_Z4 y4 y10) + (wi (q0_Z4 p0 p1 y4 y7 y10)))) y10.2.2.2.1),((cond ((decide (y10.1 = zz3)) && (decide (y4.1 = zz0))) (wi ((q1_Z4 y4 y10) + (wi (q0_Z4 p0 p1 y4 y7 y10)))) y10.2.2.2.2.1),((cond ((decide (y10.1 = zz0)) && (decide (y4.1 = zz1))) (wi ((q1_Z4 y4 y10) + (wi (q0_Z4 p0 p1 y4 y7 y10)))) y10.2.2.2.2.2.1),((cond ((decide (y10.1 = zz1)) && (decide (y4.1 = zz1))) (wi ((q1_Z4 y4 y10) + (wi (q0_Z4 p0 p1 y4 y7 y10)))) y10.2.2.2.2.2.2.1),((cond ((decide (y10.1 = zz2)) && (decide (y4.1 = zz1))) (wi ((q1_Z4 y4 y10) + (wi (q0_Z4 p0 p1 y4 y7 y10)))) y10.2.2.2.2.2.2.2.1),((cond ((decide (y10.1 = zz3)) && (decide (y4.1 = zz1))) (wi ((q1_Z4 y4 y10) + (wi (q0_Z4 p0 p1 y4 y7 y10)))) y10.2.2.2.2.2.2.2.2.1),((cond ((decide (y10.1 = zz0)) && (decide (y4.1 = zz2))) (wi ((q1_Z4 y4 y10) + (wi (q0_Z4 p0 p1 y4 y7 y10)))) y10.2.2.2.2.2.2.2.2.2.1),((cond ((decide (y10.1 = zz1)) && (decide (y4.1 = zz2))) (wi ((q1_Z4 y4 y10) + (wi (q0_Z4 p0 p1 y4 y7 y10)))) y10.2.2.2.2.2.2.2.2.2.2.1),((cond ((decide (y10.1 = zz2)) && (decide (y4.1 = zz2))) (wi ((q1_Z4 y4 y10) + (wi (q0_Z4 p0 p1 y4 y7 y10)))) y10.2.2.2.2.2.2.2.2.2.2.2.1),((cond ((decide (y10.1 = zz3)) && (decide (y4.1 = zz2))) (wi ((q1_Z4 y4 y10) + (wi (q0_Z4 p0 p1 y4 y7 y10)))) y10.2.2.2.2.2.2.2.2.2.2.2.2.1),((cond ((decide (y10.1 = zz0)) && (decide (y4.1 = zz3))) (wi ((q1_Z4 y4 y10) + (wi (q0_Z4 p0 p1 y4 y7 y10)))) y10.2.2.2.2.2.2.2.2.2.2.2.2.2.1),((cond ((decide (y10.1 = zz1)) && (decide (y4.1 = zz3))) (wi ((q1_Z4 y4 y10) + (wi (q0_Z4 p0 p1 y4 y7 y10)))) y10.2.2.2.2.2.2.2.2.2.2.2.2.2.2.1),((cond ((decide (y10.1 = zz2)) && (decide (y4.1 = zz3))) (wi ((q1_Z4 y4 y10) + (wi (q0_Z4 p0 p1 y4 y7 y10)))) y10.2.2.2.2.2.2.2.2.2.2.2.2.2.2.2.1),(cond ((decide (y10.1 = zz3)) && (decide (y4.1 = zz3))) (wi ((q1_Z4 y4 y10) + (wi (q0_Z4 p0 p1 y4 y7 y10)))) y10.2.2.2.2.2.2.2.2.2.2.2.2.2.2.2.2))))))))))))))))))))))))))))))))) ∧(((decide (y10.1 < (p1.length:Int)))=false) →(k8 ((wi (y7.1 + zz1)),(y10.2,((cond (decide (y4.1 = zz0)) (wi ((q4_Z4 y4 y7) + (wi (q2_Z4 p0 p1 y4 y7)))) y7.2.2.1),((cond (decide (y4.1 = zz1)) (wi ((q4_Z4 y4 y7) + (wi (q2_Z4 p0 p1 y4 y7)))) y7.2.2.2.1),((cond (decide (y4.1 = zz2)) (wi ((q4_Z4 y4 y7) + (wi (q2_Z4 p0 p1 y4 y7)))) y7.2.2.2.2.1),(cond (decide (y4.1 = zz3)) (wi ((q4_Z4 y4 y7) + (wi (q2_Z4 p0 p1 y4 y7)))) y7.2.2.2.2.2)))))))))) n9 (zz0,y7.2.1))))))))))))))) ∧(((decide (y7.1 < (p0.length:Int)))=false) →(k5 ((wi (y4.1 + zz1)),y7.2))))) n6 (zz0,(((cond ((decide (y4.1 = zz0)) && (decide (y4.1 = zz0))) zz0 y4.2.1.1),((cond ((decide (y4.1 = zz1)) && (decide (y4.1 = zz0))) zz0 y4.2.1.2.1),((cond ((decide (y4.1 = zz2)) && (decide (y4.1 = zz0))) zz0 y4.2.1.2.2.1),((cond ((decide (y4.1 = zz3)) && (decide (y4.1 = zz0))) zz0 y4.2.1.2.2.2.1),((cond ((decide (y4.1 = zz0)) && (decide (y4.1 = zz1))) zz0 y4.2.1.2.2.2.2.1),((cond ((decide (y4.1 = zz1)) && (decide (y4.1 = zz1))) zz0 y4.2.1.2.2.2.2.2.1),((cond ((decide (y4.1 = zz2)) && (decide (y4.1 = zz1))) zz0 y4.2.1.2.2.2.2.2.2.1),((cond ((decide (y4.1 = zz3)) && (decide (y4.1 = zz1))) zz0 y4.2.1.2.2.2.2.2.2.2.1),((cond ((decide (y4.1 = zz0)) && (decide (y4.1 = zz2))) zz0 y4.2.1.2.2.2.2.2.2.2.2.1),((cond ((decide (y4.1 = zz1)) && (decide (y4.1 = zz2))) zz0 y4.2.1.2.2.2.2.2.2.2.2.2.1),((cond ((decide (y4.1 = zz2)) && (decide (y4.1 = zz2))) zz0 y4.2.1.2.2.2.2.2.2.2.2.2.2.1),((cond ((decide (y4.1 = zz3)) && (decide (y4.1 = zz2))) zz0 y4.2.1.2.2.2.2.2.2.2.2.2.2.2.1),((cond ((decide (y4.1 = zz0)) && (decide (y4.1 = zz3))) zz0 y4.2.1.2.2.2.2.2.2.2.2.2.2.2.2.1),((cond ((decide (y4.1 = zz1)) && (decide (y4.1 = zz3))) zz0 y4.2.1.2.2.2.2.2.2.2.2.2.2.2.2.2.1),((cond ((decide (y4.1 = zz2)) && (decide (y4.1 = zz3))) zz0 y4.2.1.2.2.2.2.2.2.2.2.2.2.2.2.2.2.1),(cond ((decide (y4.1 = zz3)) && (decide (y4.1 = zz3))) zz0 y4.2.1.2.2.2.2.2.2.2.2.2.2.2.2.2.2.2)))))))))))))))),y4.2.2))))))))))) ∧(((decide (y4.1 < (p1.length:Int)))=false) →(K (((y4.2.1.1,(y4.2.1.2.1,(y4.2.1.2.2.1,y4.2.1.2.2.2.1))),((y4.2.1.2.2.2.2.1,(y4.2.1.2.2.2.2.2.1,(y4.2.1.2.2.2.2.2.2.1,y4.2.1.2.2.2.2.2.2.2.1))),((y4.2.1.2.2.2.2.2.2.2.2.1,(y4.2.1.2.2.2.2.2.2.2.2.2.1,(y4.2.1.2.2.2.2.2.2.2.2.2.2.1,y4.2.1.2.2.2.2.2.2.2.2.2.2.2.1))),y4.2.1.2.2.2.2.2.2.2.2.2.2.2.2))),y4.2.2))))) n3 (zz0,(y1.2,(zz0,(zz0,(zz0,zz0)))))))))) n0 (zz0,(zz0,(zz0,(zz0,(zz0,(zz0,(zz0,(zz0,(zz0,(zz0,(zz0,(zz0,(zz0,(zz0,(zz0,(zz0,zz0))))))))))))))))))
theorem w_Z4_eq (p0:(List (Int×(Int×(Int×(Int×Int)))))) (p1:gF) (K:(((Int×(Int×(Int×Int)))×((Int×(Int×(Int×Int)))×((Int×(Int×(Int×Int)))×(Int×(Int×(Int×Int))))))×(Int×(Int×(Int×Int))))→Prop):tfn F_Z4 A_Z4 C_Z4 P_Z4 R_Z4 (p0,p1) K = w_Z4 p0 p1 K := by kernel_rfl
abbrev qx0_st_Z4_0 (p0:(List (Int×(Int×(Int×(Int×Int)))))) (p1:gF) (y0:(Int×((Int×(Int×(Int×(Int×(Int×(Int×(Int×(Int×(Int×(Int×(Int×(Int×(Int×(Int×(Int×Int)))))))))))))))×(Int×(Int×(Int×Int)))))) (y2:(Int×((Int×(Int×(Int×(Int×(Int×(Int×(Int×(Int×(Int×(Int×(Int×(Int×(Int×(Int×(Int×Int)))))))))))))))×(Int×(Int×(Int×Int)))))) (y4:(Int×(Int×(Int×(Int×(Int×(Int×(Int×(Int×(Int×(Int×(Int×(Int×(Int×(Int×(Int×(Int×Int))))))))))))))))) := (IntKind.i64.wrap ((List.getD ((List.getD (y4.2.1 :: (y4.2.2.2.2.2.1 :: (y4.2.2.2.2.2.2.2.2.2.1 :: (y4.2.2.2.2.2.2.2.2.2.2.2.2.2.1 :: ([]:List Int))))) y0.1.toNat (0:Int)) :: ((List.getD (y4.2.2.1 :: (y4.2.2.2.2.2.2.1 :: (y4.2.2.2.2.2.2.2.2.2.2.1 :: (y4.2.2.2.2.2.2.2.2.2.2.2.2.2.2.1 :: ([]:List Int))))) y0.1.toNat (0:Int)) :: ((List.getD (y4.2.2.2.1 :: (y4.2.2.2.2.2.2.2.1 :: (y4.2.2.2.2.2.2.2.2.2.2.2.1 :: (y4.2.2.2.2.2.2.2.2.2.2.2.2.2.2.2.1 :: ([]:List Int))))) y0.1.toNat (0:Int)) :: ((List.getD (y4.2.2.2.2.1 :: (y4.2.2.2.2.2.2.2.2.1 :: (y4.2.2.2.2.2.2.2.2.2.2.2.2.1 :: (y4.2.2.2.2.2.2.2.2.2.2.2.2.2.2.2.2 :: ([]:List Int))))) y0.1.toNat (0:Int)) :: ([]:List Int))))) y4.1.toNat (0:Int)) + (IntKind.i64.wrap ((List.getD ((v_tms p0 y2.1.toNat).1 :: ((v_tms p0 y2.1.toNat).2.1 :: ((v_tms p0 y2.1.toNat).2.2.1 :: ((v_tms p0 y2.1.toNat).2.2.2.1 :: ((v_tms p0 y2.1.toNat).2.2.2.2.1 :: ((v_tms p0 y2.1.toNat).2.2.2.2.2.1 :: ((v_tms p0 y2.1.toNat).2.2.2.2.2.2.1 :: ((v_tms p0 y2.1.toNat).2.2.2.2.2.2.2 :: ([]:List Int))))))))) (Int.toNat (p1.getD y0.1.toNat (0:Int))) (0:Int)) * (List.getD ((v_tms p0 y2.1.toNat).1 :: ((v_tms p0 y2.1.toNat).2.1 :: ((v_tms p0 y2.1.toNat).2.2.1 :: ((v_tms p0 y2.1.toNat).2.2.2.1 :: ((v_tms p0 y2.1.toNat).2.2.2.2.1 :: ((v_tms p0 y2.1.toNat).2.2.2.2.2.1 :: ((v_tms p0 y2.1.toNat).2.2.2.2.2.2.1 :: ((v_tms p0 y2.1.toNat).2.2.2.2.2.2.2 :: ([]:List Int))))))))) (Int.toNat (p1.getD y4.1.toNat (0:Int))) (0:Int))))))
abbrev qx1_st_Z4_0 (p0:(List (Int×(Int×(Int×(Int×Int)))))) (p1:gF) (y0:(Int×((Int×(Int×(Int×(Int×(Int×(Int×(Int×(Int×(Int×(Int×(Int×(Int×(Int×(Int×(Int×Int)))))))))))))))×(Int×(Int×(Int×Int)))))) (y2:(Int×((Int×(Int×(Int×(Int×(Int×(Int×(Int×(Int×(Int×(Int×(Int×(Int×(Int×(Int×(Int×Int)))))))))))))))×(Int×(Int×(Int×Int)))))) := (IntKind.i64.wrap ((List.getD (y2.2.2.1 :: (y2.2.2.2.1 :: (y2.2.2.2.2.1 :: (y2.2.2.2.2.2 :: ([]:List Int))))) y0.1.toNat (0:Int)) + (IntKind.i64.wrap ((List.getD ((v_tms p0 y2.1.toNat).1 :: ((v_tms p0 y2.1.toNat).2.1 :: ((v_tms p0 y2.1.toNat).2.2.1 :: ((v_tms p0 y2.1.toNat).2.2.2.1 :: ((v_tms p0 y2.1.toNat).2.2.2.2.1 :: ((v_tms p0 y2.1.toNat).2.2.2.2.2.1 :: ((v_tms p0 y2.1.toNat).2.2.2.2.2.2.1 :: ((v_tms p0 y2.1.toNat).2.2.2.2.2.2.2 :: ([]:List Int))))))))) (Int.toNat (p1.getD y0.1.toNat (0:Int))) (0:Int)) * (p0.getD y2.1.toNat ((0:Int),((0:Int),((0:Int),((0:Int),(0:Int)))))).2.2.2.2))))
def st_Z4_0 (p0:(List (Int×(Int×(Int×(Int×Int)))))) (p1:gF) (y0:(Int×((Int×(Int×(Int×(Int×(Int×(Int×(Int×(Int×(Int×(Int×(Int×(Int×(Int×(Int×(Int×Int)))))))))))))))×(Int×(Int×(Int×Int)))))) (y2:(Int×((Int×(Int×(Int×(Int×(Int×(Int×(Int×(Int×(Int×(Int×(Int×(Int×(Int×(Int×(Int×Int)))))))))))))))×(Int×(Int×(Int×Int)))))) (y4:(Int×(Int×(Int×(Int×(Int×(Int×(Int×(Int×(Int×(Int×(Int×(Int×(Int×(Int×(Int×(Int×Int))))))))))))))))):(Int×(Int×(Int×(Int×(Int×(Int×(Int×(Int×(Int×(Int×(Int×(Int×(Int×(Int×(Int×(Int×Int)))))))))))))))) ⊕ ((Int×((Int×(Int×(Int×(Int×(Int×(Int×(Int×(Int×(Int×(Int×(Int×(Int×(Int×(Int×(Int×Int)))))))))))))))×(Int×(Int×(Int×Int))))) ⊕ ((Int×((Int×(Int×(Int×(Int×(Int×(Int×(Int×(Int×(Int×(Int×(Int×(Int×(Int×(Int×(Int×Int)))))))))))))))×(Int×(Int×(Int×Int))))) ⊕ (((Int×(Int×(Int×Int)))×((Int×(Int×(Int×Int)))×((Int×(Int×(Int×Int)))×(Int×(Int×(Int×Int))))))×(Int×(Int×(Int×Int)))))) := (cond (decide (y4.1 < (p1.length:Int))) (Sum.inl ((IntKind.i64.wrap (y4.1 + 1)),((cond ((decide (y4.1 = (0:Int))) && (decide (y0.1 = (0:Int)))) (qx0_st_Z4_0 p0 p1 y0 y2 y4) y4.2.1),((cond ((decide (y4.1 = (1:Int))) && (decide (y0.1 = (0:Int)))) (qx0_st_Z4_0 p0 p1 y0 y2 y4) y4.2.2.1),((cond ((decide (y4.1 = (2:Int))) && (decide (y0.1 = (0:Int)))) (qx0_st_Z4_0 p0 p1 y0 y2 y4) y4.2.2.2.1),((cond ((decide (y4.1 = (3:Int))) && (decide (y0.1 = (0:Int)))) (qx0_st_Z4_0 p0 p1 y0 y2 y4) y4.2.2.2.2.1),((cond ((decide (y4.1 = (0:Int))) && (decide (y0.1 = (1:Int)))) (qx0_st_Z4_0 p0 p1 y0 y2 y4) y4.2.2.2.2.2.1),((cond ((decide (y4.1 = (1:Int))) && (decide (y0.1 = (1:Int)))) (qx0_st_Z4_0 p0 p1 y0 y2 y4) y4.2.2.2.2.2.2.1),((cond ((decide (y4.1 = (2:Int))) && (decide (y0.1 = (1:Int)))) (qx0_st_Z4_0 p0 p1 y0 y2 y4) y4.2.2.2.2.2.2.2.1),((cond ((decide (y4.1 = (3:Int))) && (decide (y0.1 = (1:Int)))) (qx0_st_Z4_0 p0 p1 y0 y2 y4) y4.2.2.2.2.2.2.2.2.1),((cond ((decide (y4.1 = (0:Int))) && (decide (y0.1 = (2:Int)))) (qx0_st_Z4_0 p0 p1 y0 y2 y4) y4.2.2.2.2.2.2.2.2.2.1),((cond ((decide (y4.1 = (1:Int))) && (decide (y0.1 = (2:Int)))) (qx0_st_Z4_0 p0 p1 y0 y2 y4) y4.2.2.2.2.2.2.2.2.2.2.1),((cond ((decide (y4.1 = (2:Int))) && (decide (y0.1 = (2:Int)))) (qx0_st_Z4_0 p0 p1 y0 y2 y4) y4.2.2.2.2.2.2.2.2.2.2.2.1),((cond ((decide (y4.1 = (3:Int))) && (decide (y0.1 = (2:Int)))) (qx0_st_Z4_0 p0 p1 y0 y2 y4) y4.2.2.2.2.2.2.2.2.2.2.2.2.1),((cond ((decide (y4.1 = (0:Int))) && (decide (y0.1 = (3:Int)))) (qx0_st_Z4_0 p0 p1 y0 y2 y4) y4.2.2.2.2.2.2.2.2.2.2.2.2.2.1),((cond ((decide (y4.1 = (1:Int))) && (decide (y0.1 = (3:Int)))) (qx0_st_Z4_0 p0 p1 y0 y2 y4) y4.2.2.2.2.2.2.2.2.2.2.2.2.2.2.1),((cond ((decide (y4.1 = (2:Int))) && (decide (y0.1 = (3:Int)))) (qx0_st_Z4_0 p0 p1 y0 y2 y4) y4.2.2.2.2.2.2.2.2.2.2.2.2.2.2.2.1),(cond ((decide (y4.1 = (3:Int))) && (decide (y0.1 = (3:Int)))) (qx0_st_Z4_0 p0 p1 y0 y2 y4) y4.2.2.2.2.2.2.2.2.2.2.2.2.2.2.2.2)))))))))))))))))) (Sum.inr (Sum.inl ((IntKind.i64.wrap (y2.1 + 1)),(y4.2,((cond (decide (y0.1 = (0:Int))) (qx1_st_Z4_0 p0 p1 y0 y2) y2.2.2.1),((cond (decide (y0.1 = (1:Int))) (qx1_st_Z4_0 p0 p1 y0 y2) y2.2.2.2.1),((cond (decide (y0.1 = (2:Int))) (qx1_st_Z4_0 p0 p1 y0 y2) y2.2.2.2.2.1),(cond (decide (y0.1 = (3:Int))) (qx1_st_Z4_0 p0 p1 y0 y2) y2.2.2.2.2.2)))))))))
abbrev sp_Z4_0 (_p0:(List (Int×(Int×(Int×(Int×Int)))))) (p1:gF) (y0:(Int×((Int×(Int×(Int×(Int×(Int×(Int×(Int×(Int×(Int×(Int×(Int×(Int×(Int×(Int×(Int×Int)))))))))))))))×(Int×(Int×(Int×Int)))))) (_y2:(Int×((Int×(Int×(Int×(Int×(Int×(Int×(Int×(Int×(Int×(Int×(Int×(Int×(Int×(Int×(Int×Int)))))))))))))))×(Int×(Int×(Int×Int)))))) (y4:(Int×(Int×(Int×(Int×(Int×(Int×(Int×(Int×(Int×(Int×(Int×(Int×(Int×(Int×(Int×(Int×Int))))))))))))))))):List Prop := [(((decide (y4.1 < (p1.length:Int)))=true)→((0:Int)≤y4.1)),(((decide (y4.1 < (p1.length:Int)))=true)→(y4.1 < (p1.length:Int))),(((decide (y4.1 < (p1.length:Int)))=true)→((0:Int)≤y0.1)),(((decide (y4.1 < (p1.length:Int)))=true)→(y0.1 < 4)),(((decide (y4.1 < (p1.length:Int)))=true)→(y4.1 < 4)),(((decide (y4.1 < (p1.length:Int)))=true)→((0:Int)≤(p1.getD y0.1.toNat (0:Int)))),(((decide (y4.1 < (p1.length:Int)))=true)→((p1.getD y0.1.toNat (0:Int)) < 8)),(((decide (y4.1 < (p1.length:Int)))=true)→((0:Int)≤(p1.getD y4.1.toNat (0:Int)))),(((decide (y4.1 < (p1.length:Int)))=true)→((p1.getD y4.1.toNat (0:Int)) < 8))]
def st_Z4_1 (p0:(List (Int×(Int×(Int×(Int×Int)))))) (p1:gF) (y0:(Int×((Int×(Int×(Int×(Int×(Int×(Int×(Int×(Int×(Int×(Int×(Int×(Int×(Int×(Int×(Int×Int)))))))))))))))×(Int×(Int×(Int×Int)))))) (y2:(Int×((Int×(Int×(Int×(Int×(Int×(Int×(Int×(Int×(Int×(Int×(Int×(Int×(Int×(Int×(Int×Int)))))))))))))))×(Int×(Int×(Int×Int)))))):(Int×((Int×(Int×(Int×(Int×(Int×(Int×(Int×(Int×(Int×(Int×(Int×(Int×(Int×(Int×(Int×Int)))))))))))))))×(Int×(Int×(Int×Int))))) ⊕ ((Int×((Int×(Int×(Int×(Int×(Int×(Int×(Int×(Int×(Int×(Int×(Int×(Int×(Int×(Int×(Int×Int)))))))))))))))×(Int×(Int×(Int×Int))))) ⊕ (((Int×(Int×(Int×Int)))×((Int×(Int×(Int×Int)))×((Int×(Int×(Int×Int)))×(Int×(Int×(Int×Int))))))×(Int×(Int×(Int×Int))))) := (cond (decide (y2.1 < (p0.length:Int))) (lpv (Sum.inr (Sum.inr ((((0:Int),((0:Int),(0,0))),(((0:Int),((0:Int),(0,0))),(((0:Int),((0:Int),(0,0))),((0:Int),((0:Int),(0,0)))))),((0:Int),((0:Int),(0,0)))))) (st_Z4_0 p0 p1 y0 y2) ((0:Int),y2.2.1)) (Sum.inr (Sum.inl ((IntKind.i64.wrap (y0.1 + 1)),y2.2))))
abbrev sp_Z4_1 (p0:(List (Int×(Int×(Int×(Int×Int)))))) (p1:gF) (y0:(Int×((Int×(Int×(Int×(Int×(Int×(Int×(Int×(Int×(Int×(Int×(Int×(Int×(Int×(Int×(Int×Int)))))))))))))))×(Int×(Int×(Int×Int)))))) (y2:(Int×((Int×(Int×(Int×(Int×(Int×(Int×(Int×(Int×(Int×(Int×(Int×(Int×(Int×(Int×(Int×Int)))))))))))))))×(Int×(Int×(Int×Int)))))):List Prop := [(((decide (y2.1 < (p0.length:Int)))=true)→(v_smp p0)),(((decide (y2.1 < (p0.length:Int)))=true)→((0:Int)≤y2.1)),(((decide (y2.1 < (p0.length:Int)))=true)→(y2.1 < (p0.length:Int))),(((decide (y2.1 < (p0.length:Int)))=true)→((0:Int)≤y0.1)),(((decide (y2.1 < (p0.length:Int)))=true)→(y0.1 < 4)),(((decide (y2.1 < (p0.length:Int)))=true)→((0:Int)≤(p1.getD y0.1.toNat (0:Int)))),(((decide (y2.1 < (p0.length:Int)))=true)→((p1.getD y0.1.toNat (0:Int)) < 8)),(((decide (y2.1 < (p0.length:Int)))=true)→(OkL (st_Z4_0 p0 p1 y0 y2) (sp_Z4_0 p0 p1 y0 y2) ((0:Int),y2.2.1)))]
def st_Z4_2 (p0:(List (Int×(Int×(Int×(Int×Int)))))) (p1:gF) (y0:(Int×((Int×(Int×(Int×(Int×(Int×(Int×(Int×(Int×(Int×(Int×(Int×(Int×(Int×(Int×(Int×Int)))))))))))))))×(Int×(Int×(Int×Int)))))):(Int×((Int×(Int×(Int×(Int×(Int×(Int×(Int×(Int×(Int×(Int×(Int×(Int×(Int×(Int×(Int×Int)))))))))))))))×(Int×(Int×(Int×Int))))) ⊕ (((Int×(Int×(Int×Int)))×((Int×(Int×(Int×Int)))×((Int×(Int×(Int×Int)))×(Int×(Int×(Int×Int))))))×(Int×(Int×(Int×Int)))) := (cond (decide (y0.1 < (p1.length:Int))) (lpv (Sum.inr ((((0:Int),((0:Int),(0,0))),(((0:Int),((0:Int),(0,0))),(((0:Int),((0:Int),(0,0))),((0:Int),((0:Int),(0,0)))))),((0:Int),((0:Int),(0,0))))) (st_Z4_1 p0 p1 y0) ((0:Int),(((cond ((decide (y0.1 = (0:Int))) && (decide (y0.1 = (0:Int)))) (0:Int) y0.2.1.1),((cond ((decide (y0.1 = (1:Int))) && (decide (y0.1 = (0:Int)))) (0:Int) y0.2.1.2.1),((cond ((decide (y0.1 = (2:Int))) && (decide (y0.1 = (0:Int)))) (0:Int) y0.2.1.2.2.1),((cond ((decide (y0.1 = (3:Int))) && (decide (y0.1 = (0:Int)))) (0:Int) y0.2.1.2.2.2.1),((cond ((decide (y0.1 = (0:Int))) && (decide (y0.1 = (1:Int)))) (0:Int) y0.2.1.2.2.2.2.1),((cond ((decide (y0.1 = (1:Int))) && (decide (y0.1 = (1:Int)))) (0:Int) y0.2.1.2.2.2.2.2.1),((cond ((decide (y0.1 = (2:Int))) && (decide (y0.1 = (1:Int)))) (0:Int) y0.2.1.2.2.2.2.2.2.1),((cond ((decide (y0.1 = (3:Int))) && (decide (y0.1 = (1:Int)))) (0:Int) y0.2.1.2.2.2.2.2.2.2.1),((cond ((decide (y0.1 = (0:Int))) && (decide (y0.1 = (2:Int)))) (0:Int) y0.2.1.2.2.2.2.2.2.2.2.1),((cond ((decide (y0.1 = (1:Int))) && (decide (y0.1 = (2:Int)))) (0:Int) y0.2.1.2.2.2.2.2.2.2.2.2.1),((cond ((decide (y0.1 = (2:Int))) && (decide (y0.1 = (2:Int)))) (0:Int) y0.2.1.2.2.2.2.2.2.2.2.2.2.1),((cond ((decide (y0.1 = (3:Int))) && (decide (y0.1 = (2:Int)))) (0:Int) y0.2.1.2.2.2.2.2.2.2.2.2.2.2.1),((cond ((decide (y0.1 = (0:Int))) && (decide (y0.1 = (3:Int)))) (0:Int) y0.2.1.2.2.2.2.2.2.2.2.2.2.2.2.1),((cond ((decide (y0.1 = (1:Int))) && (decide (y0.1 = (3:Int)))) (0:Int) y0.2.1.2.2.2.2.2.2.2.2.2.2.2.2.2.1),((cond ((decide (y0.1 = (2:Int))) && (decide (y0.1 = (3:Int)))) (0:Int) y0.2.1.2.2.2.2.2.2.2.2.2.2.2.2.2.2.1),(cond ((decide (y0.1 = (3:Int))) && (decide (y0.1 = (3:Int)))) (0:Int) y0.2.1.2.2.2.2.2.2.2.2.2.2.2.2.2.2.2)))))))))))))))),y0.2.2))) (Sum.inr (((y0.2.1.1,(y0.2.1.2.1,(y0.2.1.2.2.1,y0.2.1.2.2.2.1))),((y0.2.1.2.2.2.2.1,(y0.2.1.2.2.2.2.2.1,(y0.2.1.2.2.2.2.2.2.1,y0.2.1.2.2.2.2.2.2.2.1))),((y0.2.1.2.2.2.2.2.2.2.2.1,(y0.2.1.2.2.2.2.2.2.2.2.2.1,(y0.2.1.2.2.2.2.2.2.2.2.2.2.1,y0.2.1.2.2.2.2.2.2.2.2.2.2.2.1))),y0.2.1.2.2.2.2.2.2.2.2.2.2.2.2))),y0.2.2)))
abbrev sp_Z4_2 (p0:(List (Int×(Int×(Int×(Int×Int)))))) (p1:gF) (y0:(Int×((Int×(Int×(Int×(Int×(Int×(Int×(Int×(Int×(Int×(Int×(Int×(Int×(Int×(Int×(Int×Int)))))))))))))))×(Int×(Int×(Int×Int)))))):List Prop := [(((decide (y0.1 < (p1.length:Int)))=true)→((0:Int)≤y0.1)),(((decide (y0.1 < (p1.length:Int)))=true)→(y0.1 < (p1.length:Int))),(((decide (y0.1 < (p1.length:Int)))=true)→(y0.1 < 4)),(((decide (y0.1 < (p1.length:Int)))=true)→(OkL (st_Z4_1 p0 p1 y0) (sp_Z4_1 p0 p1 y0) ((0:Int),(((cond ((decide (y0.1 = (0:Int))) && (decide (y0.1 = (0:Int)))) (0:Int) y0.2.1.1),((cond ((decide (y0.1 = (1:Int))) && (decide (y0.1 = (0:Int)))) (0:Int) y0.2.1.2.1),((cond ((decide (y0.1 = (2:Int))) && (decide (y0.1 = (0:Int)))) (0:Int) y0.2.1.2.2.1),((cond ((decide (y0.1 = (3:Int))) && (decide (y0.1 = (0:Int)))) (0:Int) y0.2.1.2.2.2.1),((cond ((decide (y0.1 = (0:Int))) && (decide (y0.1 = (1:Int)))) (0:Int) y0.2.1.2.2.2.2.1),((cond ((decide (y0.1 = (1:Int))) && (decide (y0.1 = (1:Int)))) (0:Int) y0.2.1.2.2.2.2.2.1),((cond ((decide (y0.1 = (2:Int))) && (decide (y0.1 = (1:Int)))) (0:Int) y0.2.1.2.2.2.2.2.2.1),((cond ((decide (y0.1 = (3:Int))) && (decide (y0.1 = (1:Int)))) (0:Int) y0.2.1.2.2.2.2.2.2.2.1),((cond ((decide (y0.1 = (0:Int))) && (decide (y0.1 = (2:Int)))) (0:Int) y0.2.1.2.2.2.2.2.2.2.2.1),((cond ((decide (y0.1 = (1:Int))) && (decide (y0.1 = (2:Int)))) (0:Int) y0.2.1.2.2.2.2.2.2.2.2.2.1),((cond ((decide (y0.1 = (2:Int))) && (decide (y0.1 = (2:Int)))) (0:Int) y0.2.1.2.2.2.2.2.2.2.2.2.2.1),((cond ((decide (y0.1 = (3:Int))) && (decide (y0.1 = (2:Int)))) (0:Int) y0.2.1.2.2.2.2.2.2.2.2.2.2.2.1),((cond ((decide (y0.1 = (0:Int))) && (decide (y0.1 = (3:Int)))) (0:Int) y0.2.1.2.2.2.2.2.2.2.2.2.2.2.2.1),((cond ((decide (y0.1 = (1:Int))) && (decide (y0.1 = (3:Int)))) (0:Int) y0.2.1.2.2.2.2.2.2.2.2.2.2.2.2.2.1),((cond ((decide (y0.1 = (2:Int))) && (decide (y0.1 = (3:Int)))) (0:Int) y0.2.1.2.2.2.2.2.2.2.2.2.2.2.2.2.2.1),(cond ((decide (y0.1 = (3:Int))) && (decide (y0.1 = (3:Int)))) (0:Int) y0.2.1.2.2.2.2.2.2.2.2.2.2.2.2.2.2.2)))))))))))))))),y0.2.2))))]
def s_Z4 (p0:(List (Int×(Int×(Int×(Int×Int)))))) (p1:gF):(((Int×(Int×(Int×Int)))×((Int×(Int×(Int×Int)))×((Int×(Int×(Int×Int)))×(Int×(Int×(Int×Int))))))×(Int×(Int×(Int×Int)))) := (lpv ((((0:Int),((0:Int),(0,0))),(((0:Int),((0:Int),(0,0))),(((0:Int),((0:Int),(0,0))),((0:Int),((0:Int),(0,0)))))),((0:Int),((0:Int),(0,0)))) (st_Z4_2 p0 p1) ((0:Int),(((1:Int),((0:Int),((0:Int),((0:Int),((0:Int),((1:Int),((0:Int),((0:Int),((0:Int),((0:Int),((1:Int),((0:Int),((0:Int),((0:Int),((0:Int),(1:Int)))))))))))))))),((0:Int),((0:Int),(0,0))))))
abbrev pre_Z4 (p0:(List (Int×(Int×(Int×(Int×Int)))))) (p1:gF):List Prop := [(OkL (st_Z4_2 p0 p1) (sp_Z4_2 p0 p1) ((0:Int),(((1:Int),((0:Int),((0:Int),((0:Int),((0:Int),((1:Int),((0:Int),((0:Int),((0:Int),((0:Int),((1:Int),((0:Int),((0:Int),((0:Int),((0:Int),(1:Int)))))))))))))))),((0:Int),((0:Int),(0,0))))))]
theorem d_Z4 (p0:(List (Int×(Int×(Int×(Int×Int)))))) (p1:gF) (K:(((Int×(Int×(Int×Int)))×((Int×(Int×(Int×Int)))×((Int×(Int×(Int×Int)))×(Int×(Int×(Int×Int))))))×(Int×(Int×(Int×Int))))→Prop) (hp:∀ p∈pre_Z4 p0 p1,p) (h:K (s_Z4 p0 p1)):w_Z4 p0 p1 K := by
 unfold w_Z4
 unfold s_Z4 at h
 obtain ⟨hp0,_⟩ := conj_of hp
 exact ⟨31,fun _ => ⟨(od rfl),(od rfl),(od rfl),(od rfl),fun _ => ⟨(od rfl),(od rfl),(od rfl),(od rfl),fun _ => ⟨(od rfl),(od rfl),(od rfl),(od rfl),fun _ => ⟨(od rfl),(od rfl),(od rfl),(od rfl),nof,fun _ => (loop_gen (hp0) h (fun y0 k0 hp h => by
 unfold st_Z4_2 at h; obtain ⟨hp0,hp1,hp2,hp3,_⟩ := conj_of hp
 exact (br' h (fun e1 h => ⟨(hp0 e1),(hp1 e1),(hp0 e1),(hp2 e1),(hp0 e1),(hp2 e1),(loop_gen (hp3 e1) h (fun y2 k2 hp h => by
 unfold st_Z4_1 at h; obtain ⟨hp0,hp1,hp2,hp3,hp4,hp5,hp6,hp7,_⟩ := conj_of hp
 exact (br' h (fun e3 h => ⟨(hp0 e3),(hp1 e3),(hp2 e3),(hp3 e3),(hp4 e3),(hp5 e3),(hp6 e3),(hp1 e3),(hp2 e3),(hp3 e3),(hp4 e3),(loop_gen (hp7 e3) h (fun y4 k4 hp h => by
 unfold st_Z4_0 at h; obtain ⟨hp0,hp1,hp2,hp3,hp4,hp5,hp6,hp7,hp8,_⟩ := conj_of hp
 exact (br' h (fun e5 h => ⟨(hp0 e5),(hp1 e5),(hp2 e5),(hp3 e5),(hp0 e5),(hp4 e5),(hp5 e5),(hp6 e5),(hp7 e5),(hp8 e5),(hp2 e5),(hp3 e5),(hp0 e5),(hp4 e5),h⟩)
  (fun e5 h => h))))⟩)
  (fun e3 h => h))))⟩)
  (fun e1 h => h))))⟩,fun e => Bool.noConfusion (show true = false from e)⟩,fun e => Bool.noConfusion (show true = false from e)⟩,fun e => Bool.noConfusion (show true = false from e)⟩,fun e => Bool.noConfusion (show true = false from e)⟩
abbrev R4:Type := Int×Int×Int×Int
abbrev T16:Type := Int×Int×Int×Int×Int×Int×Int×Int×Int×Int×Int×Int×Int×Int×Int×Int
/-- Sixteen numbers,row by row. -/
def v_tup (f:Nat→Nat→Int):T16 := (f 0 0,f 0 1,f 0 2,f 0 3,f 1 0,f 1 1,f 1 2,f 1 3,f 2 0,f 2 1,f 2 2,f 2 3,f 3 0,f 3 1,f 3 2,f 3 3)
def v_up (f:Nat→Nat→Int) (i j:Nat) (x:Int):Nat→Nat→Int := fun r c => cond (Nat.beq r i && Nat.beq c j) x (f r c)
def v_t8 (t:Int×Int×Int×Int×Int×Int×Int×Int) (k:Int):Int := (t.1 :: (t.2.1 :: (t.2.2.1 :: (t.2.2.2.1 :: (t.2.2.2.2.1 :: (t.2.2.2.2.2.1 :: (t.2.2.2.2.2.2.1 :: (t.2.2.2.2.2.2.2 :: ([]:List Int))))))))).getD k.toNat 0
theorem eq0_step (p0:List (Int×Int×Int×Int×Int)) (p1:gF) (m:T16×R4) (y2:Int×T16×R4) (f:Nat→Nat→Int) (i j:Nat) (hi:i < 4) (hj:j < 4) (hl:(j:Int) < p1.length) :
  st_Z4_0 p0 p1 ((i:Int),m) y2 ((j:Int),v_tup f) = .inl (IntKind.i64.wrap ((j:Int) + 1),v_tup (v_up f i j (IntKind.i64.wrap (f i j + IntKind.i64.wrap (v_t8 (v_tms p0 y2.1.toNat) (p1.getD i 0) * v_t8 (v_tms p0 y2.1.toNat) (p1.getD j 0)))))) := by
 unfold st_Z4_0
 rw [decide_eq_true hl,cond_true]
 match i,hi,j,hj with
 | 0,_,0,_ => rfl
 | 0,_,1,_ => rfl
 | 0,_,2,_ => rfl
 | 0,_,3,_ => rfl
 | 1,_,0,_ => rfl
 | 1,_,1,_ => rfl
 | 1,_,2,_ => rfl
 | 1,_,3,_ => rfl
 | 2,_,0,_ => rfl
 | 2,_,1,_ => rfl
 | 2,_,2,_ => rfl
 | 2,_,3,_ => rfl
 | 3,_,0,_ => rfl
 | 3,_,1,_ => rfl
 | 3,_,2,_ => rfl
 | 3,_,3,_ => rfl
def v_tu4 (g:Nat→Int):R4 := (g 0,g 1,g 2,g 3)
def v_up4 (g:Nat→Int) (i:Nat) (x:Int):Nat→Int := fun r => cond (Nat.beq r i) x (g r)
theorem eq0_end (p0:List (Int×Int×Int×Int×Int)) (p1:gF) (m:T16×R4) (k:Int) (M M2:T16) (g:Nat→Int) (i:Nat) (hi:i < 4) :
  st_Z4_0 p0 p1 ((i:Int),m) (k,M,v_tu4 g) ((p1.length:Int),M2) = .inr (.inl (IntKind.i64.wrap (k + 1),M2,v_tu4 (v_up4 g i (IntKind.i64.wrap (g i + IntKind.i64.wrap (v_t8 (v_tms p0 k.toNat) (p1.getD i 0) * (p0.getD k.toNat (0,0,0,0,0)).2.2.2.2)))))) := by
 unfold st_Z4_0
 rw [decide_eq_false (Int.lt_irrefl _),cond_false]
 match i,hi with
 | 0,_ => rfl
 | 1,_ => rfl
 | 2,_ => rfl
 | 3,_ => rfl
theorem eq2_begin (p0:List (Int×Int×Int×Int×Int)) (p1:gF) (R:R4) (f:Nat→Nat→Int) (i:Nat) (hi:i < 4) (hl:(i:Int) < p1.length) :
  st_Z4_2 p0 p1 ((i:Int),v_tup f,R)=lpv (.inr (((0,0,0,0),(0,0,0,0),(0,0,0,0),(0,0,0,0)),0,0,0,0)) (st_Z4_1 p0 p1 ((i:Int),v_tup f,R)) (0,v_tup (v_up f i i 0),R) := by
 unfold st_Z4_2
 rw [decide_eq_true hl,cond_true]
 match i,hi with
 | 0,_ => rfl
 | 1,_ => rfl
 | 2,_ => rfl
 | 3,_ => rfl
theorem v_up_if (f:Nat→Nat→Int) (i j:Nat) (x:Int) (r c:Nat):v_up f i j x r c = if r = i∧c = j then x else f r c := by
 unfold v_up
 by_cases h1:r = i
 ·by_cases h2:c = j
  ·subst h1 h2; simp
  ·rw [if_neg (by omega)]
   have:Nat.beq c j = false := by rw [← Bool.not_eq_true,Nat.beq_eq]; exact h2
   rw [this,Bool.and_false]; rfl
 ·rw [if_neg (by omega)]
  have:Nat.beq r i = false := by rw [← Bool.not_eq_true,Nat.beq_eq]; exact h1
  rw [this]; rfl
/-- A row to whose first numbers something is added. -/
def v_row (f:Nat→Nat→Int) (i n:Nat) (T:Nat→Int):Nat→Nat→Int := fun r c => if r = i∧c < n then f i c + T c else f r c
theorem v_row_0 (f:Nat→Nat→Int) (i:Nat) (T:Nat→Int):v_row f i 0 T = f := by
 funext r c
 unfold v_row
 rw [if_neg (by omega)]
theorem v_row_step (f:Nat→Nat→Int) (i j:Nat) (T:Nat→Int):v_up (v_row f i j T) i j (v_row f i j T i j + T j)=v_row f i (j + 1) T := by
 funext r c
 rw [v_up_if]
 unfold v_row
 by_cases h1:r = i∧c = j
 ·rw [if_pos h1,if_neg (by omega),if_pos (by omega)]
  rw [h1.2]
 ·rw [if_neg h1]
  by_cases h2:r = i∧c < j
  ·rw [if_pos h2,if_pos (by omega)]
  ·rw [if_neg h2,if_neg (by omega)]
/-- The terms of a sample that are chosen. -/
def v_tk (p0:List (Int×Int×Int×Int×Int)) (p1:gF) (k i:Nat):Int := v_t8 (v_tms p0 k) (p1.getD i 0)
/-- The innermost loop: a row grows by the products of one sample. -/
theorem eq0_is (p0:List (Int×Int×Int×Int×Int)) (p1:gF) (m:T16×R4) (k:Nat) (M:T16) (g:Nat→Int) (f:Nat→Nat→Int) (i:Nat) (hi:i < 4) (hi1:i < p1.length) (hn:p1.length≤4) (hc:∀ j,j < p1.length→0≤p1.getD j 0∧p1.getD j 0 < 8)
  (ht:∀ j,j < p1.length→-100≤v_tk p0 p1 k j∧v_tk p0 p1 k j≤100) (hf:∀ j,j < p1.length→-1000000≤f i j∧f i j≤1000000) (d:(Int×T16×R4) ⊕ ((Int×T16×R4) ⊕ ((R4×R4×R4×R4)×R4))) :
  OkL (st_Z4_0 p0 p1 ((i:Int),m) ((k:Int),M,v_tu4 g)) (sp_Z4_0 p0 p1 ((i:Int),m) ((k:Int),M,v_tu4 g)) (0,v_tup f)∧lpv d (st_Z4_0 p0 p1 ((i:Int),m) ((k:Int),M,v_tu4 g)) (0,v_tup f) = .inl (IntKind.i64.wrap ((k:Int) + 1),v_tup (v_row f i p1.length fun j => v_tk p0 p1 k i * v_tk p0 p1 k j),v_tu4 (v_up4 g i (IntKind.i64.wrap (g i + IntKind.i64.wrap (v_tk p0 p1 k i * (p0.getD k (0,0,0,0,0)).2.2.2.2))))) := by
 have hti := ht i hi1
 refine @for_is T16 (Int×T16) ((Int×T16×R4) ⊕ ((Int×T16×R4) ⊕ ((R4×R4×R4×R4)×R4))) d (st_Z4_0 p0 p1 ((i:Int),m) ((k:Int),M,v_tu4 g)) (sp_Z4_0 p0 p1 ((i:Int),m) ((k:Int),M,v_tu4 g)) (fun j t => (j,t)) 0 p1.length (fun j t => t = v_tup (v_row f i j fun j => v_tk p0 p1 k i * v_tk p0 p1 k j)) (fun _ _ => .inl (IntKind.i64.wrap ((k:Int) + 1),v_tup (v_row f i p1.length fun j => v_tk p0 p1 k i * v_tk p0 p1 k j),v_tu4 (v_up4 g i (IntKind.i64.wrap (g i + IntKind.i64.wrap (v_tk p0 p1 k i * (p0.getD k (0,0,0,0,0)).2.2.2.2)))))) (Nat.zero_le _) (by omega) ?_ ?_ (v_tup f) (by rw [v_row_0])
 ·rintro t rfl
  refine ⟨?_,?_⟩
  ·simp only [sp_Z4_0,fM,decide_eq_false (Int.lt_irrefl (p1.length:Int))]
   repeat' refine And.intro ?_ ?_
   all_goals first
    | (intro h; cases h; done)
    | (intro p hp; cases hp; done)
  ·rw [eq0_end p0 p1 m (k:Int) M _ g i hi]; rfl
 ·rintro j t _ hj rfl
  have hw1:IntKind.i64.wrap ((j:Int) + 1)=((j + 1:Nat):Int) := wrap_id (by omega) (by omega)
  have hci := hc i hi1
  have hcj := hc j hj
  have htj := ht j hj
  have hfj := hf j hj
  have mm := mul_abs (x := v_tk p0 p1 k i) (y := v_tk p0 p1 k j) (a := 100) (b := 100) hti.1 hti.2 htj.1 htj.2
  have e0:v_row f i j (fun j => v_tk p0 p1 k i * v_tk p0 p1 k j) i j = f i j := by unfold v_row; rw [if_neg (by omega)]
  refine ⟨?_,.inl ⟨v_tup (v_row f i (j + 1) fun j => v_tk p0 p1 k i * v_tk p0 p1 k j),?_,rfl,rfl⟩⟩
  ·simp only [sp_Z4_0,fM,Int.toNat_natCast]
   repeat' refine And.intro ?_ ?_
   all_goals first
    | (intro p hp; cases hp; done)
    | (intros; omega)
  ·rw [eq0_step p0 p1 m ((k:Int),M,v_tu4 g) _ i j hi (by omega) (by omega),hw1,← v_row_step,e0]
   show Sum.inl (((j + 1:Nat):Int),v_tup (v_up _ i j (IntKind.i64.wrap (_ + IntKind.i64.wrap (v_tk p0 p1 k i * v_tk p0 p1 k j)))))=_
   rw [wrap_id (n := v_tk p0 p1 k i * v_tk p0 p1 k j) (by omega) (by omega),wrap_id (n := f i j + v_tk p0 p1 k i * v_tk p0 p1 k j) (by omega) (by omega)]
/-- Sums over the samples ahead of one. -/
def v_gs (p0:List (Int×Int×Int×Int×Int)) (p1:gF) (i j n:Nat):Int := v_sums (fun k => v_tk p0 p1 k i * v_tk p0 p1 k j) 0 n
def v_rs (p0:List (Int×Int×Int×Int×Int)) (p1:gF) (i n:Nat):Int := v_sums (fun k => v_tk p0 p1 k i * (p0.getD k (0,0,0,0,0)).2.2.2.2) 0 n
theorem v_row_row (f:Nat→Nat→Int) (i n:Nat) (A B:Nat→Int):v_row (v_row f i n A) i n B = v_row f i n (fun j => A j + B j) := by
 funext r c
 unfold v_row
 by_cases h:r = i∧c < n
 ·rw [if_pos h,if_pos ⟨rfl,h.2⟩,if_pos h]; exact Int.add_assoc _ _ _
 ·rw [if_neg h,if_neg h,if_neg h]
theorem v_up4_up (g:Nat→Int) (i:Nat) (x y:Int):v_up4 (v_up4 g i x) i y = v_up4 g i y := by
 funext r
 unfold v_up4
 cases Nat.beq r i <;> rfl
theorem v_up4_at (g:Nat→Int) (i:Nat) (x:Int):v_up4 g i x i = x := by
 unfold v_up4
 rw [show Nat.beq i i = true from Nat.beq_refl i]; rfl
theorem v_up4_0 (g:Nat→Int) (i:Nat):v_up4 g i (g i)=g := by
 funext r
 unfold v_up4
 cases h:Nat.beq r i
 ·rfl
 ·rw [Nat.eq_of_beq_eq_true h]; rfl
theorem eq1_is (p0:List (Int×Int×Int×Int×Int)) (p1:gF) (m:T16×R4) (g:Nat→Int) (f:Nat→Nat→Int) (i:Nat) (hs:v_smp p0) (hi:i < 4) (hi1:i < p1.length) (hn:p1.length≤4) (hc:∀ j,j < p1.length→0≤p1.getD j 0∧p1.getD j 0 < 8)
  (ht:∀ k,k < p0.length→∀ j,j < p1.length→-100≤v_tk p0 p1 k j∧v_tk p0 p1 k j≤100) (hf:∀ j,j < p1.length→f i j = 0) (hg:g i = 0) (d:(Int×T16×R4) ⊕ ((R4×R4×R4×R4)×R4)) :
  OkL (st_Z4_1 p0 p1 ((i:Int),m)) (sp_Z4_1 p0 p1 ((i:Int),m)) (0,v_tup f,v_tu4 g)∧lpv d (st_Z4_1 p0 p1 ((i:Int),m)) (0,v_tup f,v_tu4 g) = .inl (((i + 1:Nat):Int),v_tup (v_row f i p1.length fun j => v_gs p0 p1 i j p0.length),v_tu4 (v_up4 g i (v_rs p0 p1 i p0.length))) := by
 have hl := hs.len
 have hwi:IntKind.i64.wrap ((i:Int) + 1)=((i + 1:Nat):Int) := wrap_id (by omega) (by omega)
 have hci := hc i hi1
 refine @for_is (T16×R4) (Int×T16×R4) ((Int×T16×R4) ⊕ ((R4×R4×R4×R4)×R4)) d (st_Z4_1 p0 p1 ((i:Int),m)) (sp_Z4_1 p0 p1 ((i:Int),m)) (fun k t => (k,t)) 0 p0.length (fun k t => t = (v_tup (v_row f i p1.length fun j => v_gs p0 p1 i j k),v_tu4 (v_up4 g i (v_rs p0 p1 i k)))) (fun _ _ => .inl (((i + 1:Nat):Int),v_tup (v_row f i p1.length fun j => v_gs p0 p1 i j p0.length),v_tu4 (v_up4 g i (v_rs p0 p1 i p0.length)))) (Nat.zero_le _) (by omega) ?_ ?_ (v_tup f,v_tu4 g) ?_
 ·rintro t rfl
  refine ⟨?_,?_⟩
  ·simp only [sp_Z4_1,fM,decide_eq_false (Int.lt_irrefl (p0.length:Int))]
   repeat' refine And.intro ?_ ?_
   all_goals first
    | (intro h; cases h; done)
    | (intro p hp; cases hp; done)
  ·simp only [st_Z4_1,decide_eq_false (Int.lt_irrefl (p0.length:Int)),cond_false,hwi]
 ·rintro k t _ hk rfl
  have hw1:IntKind.i64.wrap ((k:Int) + 1)=((k + 1:Nat):Int) := wrap_id (by omega) (by omega)
  have hd:decide ((k:Int) < (p0.length:Int))=true := decide_eq_true (by omega)
  have hv := (hs.ok _ (getD_mem' (0,0,0,0,0) hk)).v
  have hti := ht k hk i hi1
  have mm := mul_abs (x := v_tk p0 p1 k i) (y := (p0.getD k (0,0,0,0,0)).2.2.2.2) (a := 100) (b := 100000) hti.1 hti.2 hv.1 hv.2
  have sg:∀ j,j < p1.length→-((k:Int) * 10000)≤v_gs p0 p1 i j k∧v_gs p0 p1 i j k≤(k:Int) * 10000 := fun j hj => v_sums_in k 0 fun q _ hq => by
   have a := ht q (by omega) i hi1
   have b := ht q (by omega) j hj
   have := mul_abs (x := v_tk p0 p1 q i) (y := v_tk p0 p1 q j) (a := 100) (b := 100) a.1 a.2 b.1 b.2
   omega
  have sr : -((k:Int) * 10000000)≤v_rs p0 p1 i k∧v_rs p0 p1 i k≤(k:Int) * 10000000 := v_sums_in k 0 fun q _ hq => by
   have a := ht q (by omega) i hi1
   have b := (hs.ok _ (getD_mem' (0,0,0,0,0) (show q < p0.length by omega))).v
   have := mul_abs (x := v_tk p0 p1 q i) (y := (p0.getD q (0,0,0,0,0)).2.2.2.2) (a := 100) (b := 100000) a.1 a.2 b.1 b.2
   omega
  have hrow:∀ j,j < p1.length→v_row f i p1.length (fun j => v_gs p0 p1 i j k) i j = v_gs p0 p1 i j k := fun j hj => by
   unfold v_row
   rw [if_pos ⟨rfl,hj⟩,hf j hj,Int.zero_add]
  obtain ⟨l1,l2⟩ := eq0_is p0 p1 m k (v_tup (v_row f i p1.length fun j => v_gs p0 p1 i j k)) (v_up4 g i (v_rs p0 p1 i k)) (v_row f i p1.length fun j => v_gs p0 p1 i j k) i hi hi1 hn hc (ht k hk) (fun j hj => by rw [hrow j hj]; have := sg j hj; omega) (.inr (.inr (((0,0,0,0),(0,0,0,0),(0,0,0,0),(0,0,0,0)),0,0,0,0)))
  refine ⟨?_,.inl ⟨(v_tup (v_row f i p1.length fun j => v_gs p0 p1 i j (k + 1)),v_tu4 (v_up4 g i (v_rs p0 p1 i (k + 1)))),?_,rfl,rfl⟩⟩
  ·simp only [sp_Z4_1,fM,Int.toNat_natCast]
   repeat' refine And.intro ?_ ?_
   all_goals first
    | (intro p hp; cases hp; done)
    | (intros; exact hs)
    | (intros; omega)
    | (intros; exact l1)
  ·have e1:v_row (v_row f i p1.length fun j => v_gs p0 p1 i j k) i p1.length (fun j => v_tk p0 p1 k i * v_tk p0 p1 k j)=v_row f i p1.length fun j => v_gs p0 p1 i j (k + 1) := by
    rw [v_row_row]
    congr 1
    funext j
    unfold v_gs
    rw [v_sums_last,Nat.zero_add]
   have e2:v_rs p0 p1 i (k + 1)=v_rs p0 p1 i k + v_tk p0 p1 k i * (p0.getD k (0,0,0,0,0)).2.2.2.2 := by
    unfold v_rs
    rw [v_sums_last,Nat.zero_add]
   unfold st_Z4_1
   simp only [hd,cond_true]
   rw [l2,hw1,e1,v_up4_up,v_up4_at,wrap_id (n := v_tk p0 p1 k i * (p0.getD k (0,0,0,0,0)).2.2.2.2) (by omega) (by omega),wrap_id (n := v_rs p0 p1 i k + v_tk p0 p1 k i * (p0.getD k (0,0,0,0,0)).2.2.2.2) (by omega) (by omega),e2]
 ·have z1:(v_row f i p1.length fun j => v_gs p0 p1 i j 0)=f := by
   funext r c
   unfold v_row v_gs v_sums
   by_cases h:r = i∧c < p1.length
   ·rw [if_pos h,h.1]; exact Int.add_zero _
   ·rw [if_neg h]
  have z2:v_up4 g i (v_rs p0 p1 i 0)=g := by
   have:v_rs p0 p1 i 0 = g i := by rw [hg]; rfl
   rw [this,v_up4_0]
  rw [z1,z2]
/-- The equations' matrix once some rows are done; the right side. -/
def v_gmi (p0:List (Int×Int×Int×Int×Int)) (p1:gF) (i:Nat):Nat→Nat→Int := fun r c => if r < i then (if c < p1.length then v_gs p0 p1 r c p0.length else 0) else (if r = c then 1 else 0)
def v_gri (p0:List (Int×Int×Int×Int×Int)) (p1:gF) (i:Nat):Nat→Int := fun r => if r < i then v_rs p0 p1 r p0.length else 0
def v_mat (f:Nat→Nat→Int):R4×R4×R4×R4 := ((f 0 0,f 0 1,f 0 2,f 0 3),(f 1 0,f 1 1,f 1 2,f 1 3),(f 2 0,f 2 1,f 2 2,f 2 3),(f 3 0,f 3 1,f 3 2,f 3 3))
theorem v_gmi_step (p0:List (Int×Int×Int×Int×Int)) (p1:gF) {i:Nat} (hi:i < p1.length):v_row (v_up (v_gmi p0 p1 i) i i 0) i p1.length (fun j => v_gs p0 p1 i j p0.length)=v_gmi p0 p1 (i + 1) := by
 funext r c
 unfold v_row
 rw [v_up_if,v_up_if]
 unfold v_gmi
 grind
theorem v_gri_step (p0:List (Int×Int×Int×Int×Int)) (p1:gF) (i:Nat):v_up4 (v_gri p0 p1 i) i (v_rs p0 p1 i p0.length)=v_gri p0 p1 (i + 1) := by
 funext r
 unfold v_up4 v_gri
 by_cases h:r = i
 ·subst h
  rw [show Nat.beq r r = true from Nat.beq_refl r,cond_true,if_pos (by omega)]
 ·have:Nat.beq r i = false := by rw [← Bool.not_eq_true,Nat.beq_eq]; exact h
  rw [this,cond_false]
  by_cases h2:r < i
  ·rw [if_pos h2,if_pos (by omega)]
  ·rw [if_neg h2,if_neg (by omega)]
theorem eq2_is (p0:List (Int×Int×Int×Int×Int)) (p1:gF) (hs:v_smp p0) (hn:p1.length≤4) (hc:∀ j,j < p1.length→0≤p1.getD j 0∧p1.getD j 0 < 8)
  (ht:∀ k,k < p0.length→∀ j,j < p1.length→-100≤v_tk p0 p1 k j∧v_tk p0 p1 k j≤100) (d:(R4×R4×R4×R4)×R4) :
  OkL (st_Z4_2 p0 p1) (sp_Z4_2 p0 p1) (0,v_tup (v_gmi p0 p1 0),v_tu4 (v_gri p0 p1 0))∧lpv d (st_Z4_2 p0 p1) (0,v_tup (v_gmi p0 p1 0),v_tu4 (v_gri p0 p1 0))=(v_mat (v_gmi p0 p1 p1.length),v_tu4 (v_gri p0 p1 p1.length)) := by
 refine @for_is PUnit (Int×T16×R4) ((R4×R4×R4×R4)×R4) d (st_Z4_2 p0 p1) (sp_Z4_2 p0 p1) (fun i _ => (i,v_tup (v_gmi p0 p1 i.toNat),v_tu4 (v_gri p0 p1 i.toNat))) 0 p1.length (fun _ _ => True) (fun _ _ => (v_mat (v_gmi p0 p1 p1.length),v_tu4 (v_gri p0 p1 p1.length))) (Nat.zero_le _) (by omega) ?_ ?_ ⟨⟩ trivial
 ·rintro t _
  rw [Int.toNat_natCast]
  refine ⟨?_,?_⟩
  ·simp only [sp_Z4_2,fM,decide_eq_false (Int.lt_irrefl (p1.length:Int))]
   repeat' refine And.intro ?_ ?_
   all_goals first
    | (intro h; cases h; done)
    | (intro p hp; cases hp; done)
  ·unfold st_Z4_2
   rw [decide_eq_false (Int.lt_irrefl _),cond_false]; rfl
 ·rintro i t _ hi _
  have hi4:i < 4 := by omega
  have hfi:∀ j,j < p1.length→v_up (v_gmi p0 p1 i) i i 0 i j = 0 := fun j hj => by
   rw [v_up_if]
   by_cases h:j = i
   ·rw [if_pos ⟨rfl,h⟩]
   ·rw [if_neg (by omega)]
    unfold v_gmi
    rw [if_neg (by omega),if_neg (by omega)]
  have hgi:v_gri p0 p1 i i = 0 := by unfold v_gri; rw [if_neg (by omega)]
  obtain ⟨l1,l2⟩ := eq1_is p0 p1 (v_tup (v_gmi p0 p1 i),v_tu4 (v_gri p0 p1 i)) (v_gri p0 p1 i) (v_up (v_gmi p0 p1 i) i i 0) i hs hi4 hi hn hc ht hfi hgi (.inr (((0,0,0,0),(0,0,0,0),(0,0,0,0),(0,0,0,0)),0,0,0,0))
  rw [Int.toNat_natCast,Int.toNat_natCast]
  refine ⟨?_,.inl ⟨⟨⟩,?_,trivial,rfl⟩⟩
  ·have e:sp_Z4_2 p0 p1 ((i:Int),v_tup (v_gmi p0 p1 i),v_tu4 (v_gri p0 p1 i))=[(decide ((i:Int) < (p1.length:Int))=true→(0:Int)≤(i:Int)),(decide ((i:Int) < (p1.length:Int))=true→(i:Int) < (p1.length:Int)),(decide ((i:Int) < (p1.length:Int))=true→(i:Int) < 4),(decide ((i:Int) < (p1.length:Int))=true→OkL (st_Z4_1 p0 p1 ((i:Int),v_tup (v_gmi p0 p1 i),v_tu4 (v_gri p0 p1 i))) (sp_Z4_1 p0 p1 ((i:Int),v_tup (v_gmi p0 p1 i),v_tu4 (v_gri p0 p1 i))) (0,v_tup (v_up (v_gmi p0 p1 i) i i 0),v_tu4 (v_gri p0 p1 i)))] := by
    match i,hi4 with
    | 0,_ => rfl
    | 1,_ => rfl
    | 2,_ => rfl
    | 3,_ => rfl
   rw [e]
   simp only [fM]
   exact ⟨fun _ => by omega,fun _ => by omega,fun _ => by omega,fun _ => l1,fun p hp => by cases hp⟩
  ·rw [eq2_begin p0 p1 _ _ i hi4 (by omega),l2,v_gmi_step p0 p1 hi,v_gri_step]
theorem v_tk_in {p0:List (Int×Int×Int×Int×Int)} {p1:List Int} (hs:v_smp p0) {k:Nat} (hk:k < p0.length) (j:Nat) : -100≤v_tk p0 p1 k j∧v_tk p0 p1 k j≤100 := by
 have a := hs.ok _ (getD_mem' (0,0,0,0,0) hk)
 have b := hs.ok _ (getD_mem' (0,0,0,0,0) (show k - 1 < p0.length by omega))
 have xx := v_m10 a.x a.x
 have xy := v_m10 a.x a.y
 have ax := a.x
 have ay := a.y
 have az := a.z
 have bx := b.x
 have by' := b.y
 have key:∀ x∈((v_tms p0 k).1 :: ((v_tms p0 k).2.1 :: ((v_tms p0 k).2.2.1 :: ((v_tms p0 k).2.2.2.1 :: ((v_tms p0 k).2.2.2.2.1 :: ((v_tms p0 k).2.2.2.2.2.1 :: ((v_tms p0 k).2.2.2.2.2.2.1 :: ((v_tms p0 k).2.2.2.2.2.2.2 :: ([]:List Int))))))))),-100≤x∧x≤100 := by
  unfold v_tms
  simp only [fM]
  exact ⟨by omega,by omega,by omega,by omega,by omega,by omega,by omega,by omega,fun x hx => by cases hx⟩
 unfold v_tk v_t8
 rcases Nat.lt_or_ge (p1.getD j 0).toNat 8 with g | g
 ·exact key _ (getD_mem' 0 g)
 ·rw [gd_out _ g]; omega
/-- Indexes of terms. -/
def v_c8 (l:gF):Prop := ∀ j,j < l.length→0≤l.getD j 0∧l.getD j 0 < 8
theorem eq_start (p0:List (Int×Int×Int×Int×Int)) (p1:gF):((0:Int),((1,0,0,0,0,1,0,0,0,0,1,0,0,0,0,1):T16),((0,0,0,0):R4))=(0,v_tup (v_gmi p0 p1 0),v_tu4 (v_gri p0 p1 0)) := rfl
abbrev t_Z4 (p0:List (Int×Int×Int×Int×Int)) (p1:gF):((Int×Int×Int×Int)×(Int×Int×Int×Int)×(Int×Int×Int×Int)×(Int×Int×Int×Int))×(Int×Int×Int×Int) := (v_mat (v_gmi p0 p1 p1.length),v_tu4 (v_gri p0 p1 p1.length))
abbrev qre_Z4 (p0:List (Int×Int×Int×Int×Int)) (p1:gF):List Prop := [v_smp p0,p1.length≤4,v_c8 p1]
theorem pp_Z4 (p0:List (Int×Int×Int×Int×Int)) (p1:gF) (hq:∀ p∈qre_Z4 p0 p1,p):∀ p∈pre_Z4 p0 p1,p := by
 obtain ⟨h1,h2,h3,_⟩ := conj_of hq
 simp only [pre_Z4,fM]
 have := (eq2_is p0 p1 h1 h2 h3 (fun k hk j _ => v_tk_in h1 hk j) (((0,0,0,0),(0,0,0,0),(0,0,0,0),(0,0,0,0)),0,0,0,0)).1
 rw [← eq_start] at this
 exact ⟨this,by simp⟩
theorem tt_Z4 (p0:List (Int×Int×Int×Int×Int)) (p1:gF) (hq:∀ p∈qre_Z4 p0 p1,p):s_Z4 p0 p1 = t_Z4 p0 p1 := by
 obtain ⟨h1,h2,h3,_⟩ := conj_of hq
 have := (eq2_is p0 p1 h1 h2 h3 (fun k hk j _ => v_tk_in h1 hk j) (((0,0,0,0),(0,0,0,0),(0,0,0,0),(0,0,0,0)),0,0,0,0)).2
 rw [← eq_start] at this
 exact this

abbrev con_Z4:Con := ⟨P_Z4,R_Z4,fun x => qre_Z4 x.1 x.2,fun x => t_Z4 x.1 x.2⟩
theorem ok_Z4:ConOk Try.prog 75 con_Z4 := okG k_Z4 e_Z4 hC_Z4 fun x hx => tf_of (w_Z4_eq x.1 x.2 _) (d_Z4 x.1 x.2 _ (pp_Z4 x.1 x.2 hx) (tt_Z4 x.1 x.2 hx))
def C_Zi:Cons := []
theorem hC_Zi:ConsOk Try.prog C_Zi := ConsOk.nil
def w_Zi (p0:Int) (p1:Int) (K:Int→Prop):Prop := (∃ n0,(loopP (fun (y1:gG) k2 => ((((y1.1 != 0)=true) →((y1.1 ≠ zz0) ∧(k2 ((Int.tmod y1.2 y1.1),y1.1)))) ∧(((y1.1 != 0)=false) →(K y1.2)))) n0 (p1,p0)))
theorem w_Zi_eq (p0:Int) (p1:Int) (K:Int→Prop):tfn F_Zi A_Zi C_Zi P_Zi R_Zi (p0,p1) K = w_Zi p0 p1 K := by kernel_rfl
def st_Zi_0 (_p0:Int) (_p1:Int) (y0:gG):(Int×Int) ⊕ Int := (cond (y0.1 != 0) (Sum.inl ((Int.tmod y0.2 y0.1),y0.1)) (Sum.inr y0.2))
abbrev sp_Zi_0 (_p0:Int) (_p1:Int) (y0:gG):List Prop := [(((y0.1 != 0)=true)→(y0.1 ≠ (0:Int)))]
def s_Zi (p0:Int) (p1:Int):Int := (lpv (0:Int) (st_Zi_0 p0 p1) (p1,p0))
abbrev pre_Zi (p0:Int) (p1:Int):List Prop := [(OkL (st_Zi_0 p0 p1) (sp_Zi_0 p0 p1) (p1,p0))]
theorem d_Zi (p0:Int) (p1:Int) (K:Int→Prop) (hp:∀ p∈pre_Zi p0 p1,p) (h:K (s_Zi p0 p1)):w_Zi p0 p1 K := by
 unfold w_Zi
 unfold s_Zi at h
 obtain ⟨hp0,_⟩ := conj_of hp
 exact (loop_gen (hp0) h (fun y0 k0 hp h => by
 unfold st_Zi_0 at h; obtain ⟨hp0,_⟩ := conj_of hp
 exact (br' h (fun e1 h => ⟨(hp0 e1),h⟩)
  (fun e1 h => h))))
theorem l_Zi_0 (p0 p1:Int) (h0:0≤p0) (h1:0≤p1∧p1 < 18446744073709551616):OkL (st_Zi_0 p0 p1) (sp_Zi_0 p0 p1) (p1,p0)∧lpv 0 (st_Zi_0 p0 p1) (p1,p0)=v_gcd p0 p1 := by
 refine loop_is (fun (y:gG) => 0≤y.1∧0≤y.2) (fun (y:gG) => y.1.toNat) (fun (y:gG) => v_gcd y.2 y.1) ?_ ⟨h1.1,h0⟩ (by unfold fuel; simp only; omega)
 rintro ⟨b,a⟩ ⟨g1,g2⟩
 simp only at g1 g2
 simp only [sp_Zi_0,st_Zi_0,fM]
 refine ⟨⟨fun e => bne_iff_ne.1 e,fun p hp => by cases hp⟩,?_⟩
 cases c:(b != 0)
 ·have c := (bne_eq_false_iff_eq ..).1 c
  subst c
  simp only [cond_false]
  unfold v_gcd
  rw [Int.gcd_zero_right]; omega
 ·have c := bne_iff_ne.1 c
  have e:Int.tmod a b = a % b := Int.tmod_eq_emod_of_nonneg g2
  have r1 := Int.emod_nonneg a c
  have r2 := Int.emod_lt_of_pos a (show 0 < b by omega)
  simp only [cond_true,e]
  refine ⟨⟨r1,g1⟩,by omega,?_⟩
  rw [← e]
  exact v_gcd_step a b
abbrev t_Zi (p0:Int) (p1:Int):Int := v_gcd p0 p1
abbrev qre_Zi (p0:Int) (p1:Int):List Prop := [0≤p0∧p0 < 18446744073709551616,0≤p1∧p1 < 18446744073709551616]
theorem pp_Zi (p0:Int) (p1:Int) (hq:∀ p∈qre_Zi p0 p1,p):∀ p∈pre_Zi p0 p1,p := by
 obtain ⟨h1,h2,_⟩ := conj_of hq
 simp only [pre_Zi,fM]
 exact ⟨(l_Zi_0 p0 p1 h1.1 h2).1,by simp⟩
theorem tt_Zi (p0:Int) (p1:Int) (hq:∀ p∈qre_Zi p0 p1,p):s_Zi p0 p1 = t_Zi p0 p1 := by
 obtain ⟨h1,h2,_⟩ := conj_of hq
 exact (l_Zi_0 p0 p1 h1.1 h2).2

abbrev con_Zi:Con := ⟨P_Zi,R_Zi,fun x => qre_Zi x.1 x.2,fun x => t_Zi x.1 x.2⟩
theorem ok_Zi:ConOk Try.prog 79 con_Zi := okG k_Zi e_Zi hC_Zi fun x hx => tf_of (w_Zi_eq x.1 x.2 _) (d_Zi x.1 x.2 _ (pp_Zi x.1 x.2 hx) (tt_Zi x.1 x.2 hx))
def C_Zu:Cons := []
theorem hC_Zu:ConsOk Try.prog C_Zu := ConsOk.nil
def w_Zu (p0:Int) (K:Int→Prop):Prop := ((((decide (p0 ≥ 4294967296))=true) →((((decide ((v_shr .u64 p0 (32:Int)) ≥ 65536))=true) →((((decide ((v_shr .u64 (v_shr .u64 p0 (32:Int)) (16:Int)) ≥ 256))=true) →((zz0≤(IntKind.wrap .u8 (v_shr .u64 (v_shr .u64 (v_shr .u64 p0 (32:Int)) (16:Int)) (8:Int)))) ∧(((IntKind.wrap .u8 (v_shr .u64 (v_shr .u64 (v_shr .u64 p0 (32:Int)) (16:Int)) (8:Int))) < (((ByteArray.size lenTab):Nat):Int)) ∧(K (IntKind.i64.wrap ((56:Int) + (IntKind.i64.wrap (v_six lenTab (IntKind.wrap .u8 (v_shr .u64 (v_shr .u64 (v_shr .u64 p0 (32:Int)) (16:Int)) (8:Int))))))))))) ∧(((decide ((v_shr .u64 (v_shr .u64 p0 (32:Int)) (16:Int)) ≥ 256))=false) →((zz0≤(IntKind.wrap .u8 (v_shr .u64 (v_shr .u64 p0 (32:Int)) (16:Int)))) ∧(((IntKind.wrap .u8 (v_shr .u64 (v_shr .u64 p0 (32:Int)) (16:Int))) < (((ByteArray.size lenTab):Nat):Int)) ∧(K (IntKind.i64.wrap ((48:Int) + (IntKind.i64.wrap (v_six lenTab (IntKind.wrap .u8 (v_shr .u64 (v_shr .u64 p0 (32:Int)) (16:Int))))))))))))) ∧(((decide ((v_shr .u64 p0 (32:Int)) ≥ 65536))=false) →((((decide ((v_shr .u64 p0 (32:Int)) ≥ 256))=true) →((zz0≤(IntKind.wrap .u8 (v_shr .u64 (v_shr .u64 p0 (32:Int)) (8:Int)))) ∧(((IntKind.wrap .u8 (v_shr .u64 (v_shr .u64 p0 (32:Int)) (8:Int))) < (((ByteArray.size lenTab):Nat):Int)) ∧(K (IntKind.i64.wrap ((40:Int) + (IntKind.i64.wrap (v_six lenTab (IntKind.wrap .u8 (v_shr .u64 (v_shr .u64 p0 (32:Int)) (8:Int))))))))))) ∧(((decide ((v_shr .u64 p0 (32:Int)) ≥ 256))=false) →((zz0≤(IntKind.wrap .u8 (v_shr .u64 p0 (32:Int)))) ∧(((IntKind.wrap .u8 (v_shr .u64 p0 (32:Int))) < (((ByteArray.size lenTab):Nat):Int)) ∧(K (IntKind.i64.wrap ((32:Int) + (IntKind.i64.wrap (v_six lenTab (IntKind.wrap .u8 (v_shr .u64 p0 (32:Int))))))))))))))) ∧(((decide (p0 ≥ 4294967296))=false) →((((decide (p0 ≥ 65536))=true) →((((decide ((v_shr .u64 p0 (16:Int)) ≥ 256))=true) →((zz0≤(IntKind.wrap .u8 (v_shr .u64 (v_shr .u64 p0 (16:Int)) (8:Int)))) ∧(((IntKind.wrap .u8 (v_shr .u64 (v_shr .u64 p0 (16:Int)) (8:Int))) < (((ByteArray.size lenTab):Nat):Int)) ∧(K (IntKind.i64.wrap ((24:Int) + (IntKind.i64.wrap (v_six lenTab (IntKind.wrap .u8 (v_shr .u64 (v_shr .u64 p0 (16:Int)) (8:Int))))))))))) ∧(((decide ((v_shr .u64 p0 (16:Int)) ≥ 256))=false) →((zz0≤(IntKind.wrap .u8 (v_shr .u64 p0 (16:Int)))) ∧(((IntKind.wrap .u8 (v_shr .u64 p0 (16:Int))) < (((ByteArray.size lenTab):Nat):Int)) ∧(K (IntKind.i64.wrap ((16:Int) + (IntKind.i64.wrap (v_six lenTab (IntKind.wrap .u8 (v_shr .u64 p0 (16:Int))))))))))))) ∧(((decide (p0 ≥ 65536))=false) →((((decide (p0 ≥ 256))=true) →((zz0≤(IntKind.wrap .u8 (v_shr .u64 p0 (8:Int)))) ∧(((IntKind.wrap .u8 (v_shr .u64 p0 (8:Int))) < (((ByteArray.size lenTab):Nat):Int)) ∧(K (IntKind.i64.wrap ((8:Int) + (IntKind.i64.wrap (v_six lenTab (IntKind.wrap .u8 (v_shr .u64 p0 (8:Int))))))))))) ∧(((decide (p0 ≥ 256))=false) →((zz0≤(IntKind.wrap .u8 p0)) ∧(((IntKind.wrap .u8 p0) < (((ByteArray.size lenTab):Nat):Int)) ∧(K (IntKind.i64.wrap (zz0 + (IntKind.i64.wrap (v_six lenTab (IntKind.wrap .u8 p0))))))))))))))
theorem w_Zu_eq (p0:Int) (K:Int→Prop):tfn F_Zu A_Zu C_Zu P_Zu R_Zu p0 K = w_Zu p0 K := by kernel_rfl
def s_Zu (p0:Int):Int := (cond (decide (p0 ≥ 4294967296)) (cond (decide ((v_shr .u64 p0 (32:Int)) ≥ 65536)) (cond (decide ((v_shr .u64 (v_shr .u64 p0 (32:Int)) (16:Int)) ≥ 256)) (IntKind.i64.wrap ((56:Int) + (IntKind.i64.wrap (v_six lenTab (IntKind.wrap .u8 (v_shr .u64 (v_shr .u64 (v_shr .u64 p0 (32:Int)) (16:Int)) (8:Int))))))) (IntKind.i64.wrap ((48:Int) + (IntKind.i64.wrap (v_six lenTab (IntKind.wrap .u8 (v_shr .u64 (v_shr .u64 p0 (32:Int)) (16:Int)))))))) (cond (decide ((v_shr .u64 p0 (32:Int)) ≥ 256)) (IntKind.i64.wrap ((40:Int) + (IntKind.i64.wrap (v_six lenTab (IntKind.wrap .u8 (v_shr .u64 (v_shr .u64 p0 (32:Int)) (8:Int))))))) (IntKind.i64.wrap ((32:Int) + (IntKind.i64.wrap (v_six lenTab (IntKind.wrap .u8 (v_shr .u64 p0 (32:Int))))))))) (cond (decide (p0 ≥ 65536)) (cond (decide ((v_shr .u64 p0 (16:Int)) ≥ 256)) (IntKind.i64.wrap ((24:Int) + (IntKind.i64.wrap (v_six lenTab (IntKind.wrap .u8 (v_shr .u64 (v_shr .u64 p0 (16:Int)) (8:Int))))))) (IntKind.i64.wrap ((16:Int) + (IntKind.i64.wrap (v_six lenTab (IntKind.wrap .u8 (v_shr .u64 p0 (16:Int)))))))) (cond (decide (p0 ≥ 256)) (IntKind.i64.wrap ((8:Int) + (IntKind.i64.wrap (v_six lenTab (IntKind.wrap .u8 (v_shr .u64 p0 (8:Int))))))) (IntKind.i64.wrap ((0:Int) + (IntKind.i64.wrap (v_six lenTab (IntKind.wrap .u8 p0))))))))
abbrev pre_Zu (p0:Int):List Prop := [(((decide (p0 ≥ 4294967296))=true)→(((decide ((v_shr .u64 p0 (32:Int)) ≥ 65536))=true)→(((decide ((v_shr .u64 (v_shr .u64 p0 (32:Int)) (16:Int)) ≥ 256))=true)→((0:Int)≤(IntKind.wrap .u8 (v_shr .u64 (v_shr .u64 (v_shr .u64 p0 (32:Int)) (16:Int)) (8:Int))))))),(((decide (p0 ≥ 4294967296))=true)→(((decide ((v_shr .u64 p0 (32:Int)) ≥ 65536))=true)→(((decide ((v_shr .u64 (v_shr .u64 p0 (32:Int)) (16:Int)) ≥ 256))=true)→((IntKind.wrap .u8 (v_shr .u64 (v_shr .u64 (v_shr .u64 p0 (32:Int)) (16:Int)) (8:Int))) < (((ByteArray.size lenTab):Nat):Int))))),(((decide (p0 ≥ 4294967296))=true)→(((decide ((v_shr .u64 p0 (32:Int)) ≥ 65536))=true)→(((decide ((v_shr .u64 (v_shr .u64 p0 (32:Int)) (16:Int)) ≥ 256))=false)→((0:Int)≤(IntKind.wrap .u8 (v_shr .u64 (v_shr .u64 p0 (32:Int)) (16:Int))))))),(((decide (p0 ≥ 4294967296))=true)→(((decide ((v_shr .u64 p0 (32:Int)) ≥ 65536))=true)→(((decide ((v_shr .u64 (v_shr .u64 p0 (32:Int)) (16:Int)) ≥ 256))=false)→((IntKind.wrap .u8 (v_shr .u64 (v_shr .u64 p0 (32:Int)) (16:Int))) < (((ByteArray.size lenTab):Nat):Int))))),(((decide (p0 ≥ 4294967296))=true)→(((decide ((v_shr .u64 p0 (32:Int)) ≥ 65536))=false)→(((decide ((v_shr .u64 p0 (32:Int)) ≥ 256))=true)→((0:Int)≤(IntKind.wrap .u8 (v_shr .u64 (v_shr .u64 p0 (32:Int)) (8:Int))))))),(((decide (p0 ≥ 4294967296))=true)→(((decide ((v_shr .u64 p0 (32:Int)) ≥ 65536))=false)→(((decide ((v_shr .u64 p0 (32:Int)) ≥ 256))=true)→((IntKind.wrap .u8 (v_shr .u64 (v_shr .u64 p0 (32:Int)) (8:Int))) < (((ByteArray.size lenTab):Nat):Int))))),(((decide (p0 ≥ 4294967296))=true)→(((decide ((v_shr .u64 p0 (32:Int)) ≥ 65536))=false)→(((decide ((v_shr .u64 p0 (32:Int)) ≥ 256))=false)→((0:Int)≤(IntKind.wrap .u8 (v_shr .u64 p0 (32:Int))))))),(((decide (p0 ≥ 4294967296))=true)→(((decide ((v_shr .u64 p0 (32:Int)) ≥ 65536))=false)→(((decide ((v_shr .u64 p0 (32:Int)) ≥ 256))=false)→((IntKind.wrap .u8 (v_shr .u64 p0 (32:Int))) < (((ByteArray.size lenTab):Nat):Int))))),(((decide (p0 ≥ 4294967296))=false)→(((decide (p0 ≥ 65536))=true)→(((decide ((v_shr .u64 p0 (16:Int)) ≥ 256))=true)→((0:Int)≤(IntKind.wrap .u8 (v_shr .u64 (v_shr .u64 p0 (16:Int)) (8:Int))))))),(((decide (p0 ≥ 4294967296))=false)→(((decide (p0 ≥ 65536))=true)→(((decide ((v_shr .u64 p0 (16:Int)) ≥ 256))=true)→((IntKind.wrap .u8 (v_shr .u64 (v_shr .u64 p0 (16:Int)) (8:Int))) < (((ByteArray.size lenTab):Nat):Int))))),(((decide (p0 ≥ 4294967296))=false)→(((decide (p0 ≥ 65536))=true)→(((decide ((v_shr .u64 p0 (16:Int)) ≥ 256))=false)→((0:Int)≤(IntKind.wrap .u8 (v_shr .u64 p0 (16:Int))))))),(((decide (p0 ≥ 4294967296))=false)→(((decide (p0 ≥ 65536))=true)→(((decide ((v_shr .u64 p0 (16:Int)) ≥ 256))=false)→((IntKind.wrap .u8 (v_shr .u64 p0 (16:Int))) < (((ByteArray.size lenTab):Nat):Int))))),(((decide (p0 ≥ 4294967296))=false)→(((decide (p0 ≥ 65536))=false)→(((decide (p0 ≥ 256))=true)→((0:Int)≤(IntKind.wrap .u8 (v_shr .u64 p0 (8:Int))))))),(((decide (p0 ≥ 4294967296))=false)→(((decide (p0 ≥ 65536))=false)→(((decide (p0 ≥ 256))=true)→((IntKind.wrap .u8 (v_shr .u64 p0 (8:Int))) < (((ByteArray.size lenTab):Nat):Int))))),(((decide (p0 ≥ 4294967296))=false)→(((decide (p0 ≥ 65536))=false)→(((decide (p0 ≥ 256))=false)→((0:Int)≤(IntKind.wrap .u8 p0))))),(((decide (p0 ≥ 4294967296))=false)→(((decide (p0 ≥ 65536))=false)→(((decide (p0 ≥ 256))=false)→((IntKind.wrap .u8 p0) < (((ByteArray.size lenTab):Nat):Int)))))]
theorem d_Zu (p0:Int) (K:Int→Prop) (hp:∀ p∈pre_Zu p0,p) (h:K (s_Zu p0)):w_Zu p0 K := by
 unfold w_Zu
 unfold s_Zu at h
 obtain ⟨hp0,hp1,hp2,hp3,hp4,hp5,hp6,hp7,hp8,hp9,hp10,hp11,hp12,hp13,hp14,hp15,_⟩ := conj_of hp
 exact (br' h (fun e0 h => (br' h (fun e1 h => (br' h (fun e2 h => ⟨(hp0 e0 e1 e2),(hp1 e0 e1 e2),h⟩)
  (fun e2 h => ⟨(hp2 e0 e1 e2),(hp3 e0 e1 e2),h⟩)))
  (fun e1 h => (br' h (fun e3 h => ⟨(hp4 e0 e1 e3),(hp5 e0 e1 e3),h⟩)
  (fun e3 h => ⟨(hp6 e0 e1 e3),(hp7 e0 e1 e3),h⟩)))))
  (fun e0 h => (br' h (fun e4 h => (br' h (fun e5 h => ⟨(hp8 e0 e4 e5),(hp9 e0 e4 e5),h⟩)
  (fun e5 h => ⟨(hp10 e0 e4 e5),(hp11 e0 e4 e5),h⟩)))
  (fun e4 h => (br' h (fun e6 h => ⟨(hp12 e0 e4 e6),(hp13 e0 e4 e6),h⟩)
  (fun e6 h => ⟨(hp14 e0 e4 e6),(hp15 e0 e4 e6),h⟩))))))
/-- The length of a number in bits. -/
def v_ln (n:Nat):Nat := if n = 0 then 0 else n.log2 + 1
theorem v_ln_of {n k:Nat} (h1:2 ^ k≤n) (h2:n < 2 ^ (k + 1)):v_ln n = k + 1 := by
 have h0:n ≠ 0 := by have := Nat.two_pow_pos k; omega
 unfold v_ln
 rw [if_neg h0,(Nat.log2_eq_iff h0).2 ⟨h1,h2⟩]
theorem v_ln_bd {n:Nat} (h:n ≠ 0):∃ k,v_ln n = k + 1∧2 ^ k≤n∧n < 2 ^ (k + 1) := ⟨n.log2,by unfold v_ln; rw [if_neg h],Nat.log2_self_le h,Nat.lt_log2_self⟩
theorem v_ln_div {n s:Nat} (h:2 ^ s≤n):v_ln n = s + v_ln (n / 2 ^ s) := by
 have hp := Nat.two_pow_pos s
 have h0:n / 2 ^ s ≠ 0 := by
  have := (Nat.le_div_iff_mul_le (x := 1) (y := n) hp).2 (by omega)
  omega
 obtain ⟨k,e,b1,b2⟩ := v_ln_bd h0
 have c1 := (Nat.le_div_iff_mul_le hp).1 b1
 have c2 := (Nat.div_lt_iff_lt_mul hp).1 b2
 rw [e,← Nat.add_assoc]
 rw [← Nat.pow_add] at c1 c2
 exact v_ln_of (by rw [Nat.add_comm]; exact c1) (by rw [show s + k + 1 = k + 1 + s by omega]; exact c2)
theorem v_ln_tab {n:Nat} (h:n < 256):v_six lenTab (n:Int)=(v_ln n:Int) := by
 have key:(List.range 256).all (fun n => v_six lenTab (n:Int) == (v_ln n:Int))=true := by kernel_rfl
 exact eq_of_beq (List.all_eq_true.1 key n (List.mem_range.2 h))
theorem u_shrk (n k:Nat) (hk:k≤64):v_shr .u64 (n:Int) (k:Int)=((n / 2 ^ k:Nat):Int) := by
 unfold v_shr
 rw [show min (Int.toNat (k:Int)) (IntKind.bits .u64)=k by rw [show IntKind.bits .u64 = 64 from rfl]; omega,Int.fdiv_eq_ediv_of_nonneg _ (Int.pow_nonneg (by decide))]
 rw [Int.natCast_ediv,Int.natCast_pow]; rfl
theorem u_w8 {n:Nat} (h:n < 256):IntKind.u8.wrap (n:Int)=(n:Int) := by
 simp only [IntKind.wrap,IntKind.bits,IntKind.signed]; simp; omega
abbrev t_Zu (p0:Int):Int := (v_ln p0.toNat:Int)
abbrev qre_Zu (p0:Int):List Prop := [0≤p0∧p0 < 18446744073709551616]
theorem pp_Zu (p0:Int) (hq:∀ p∈qre_Zu p0,p):∀ p∈pre_Zu p0,p := by
 obtain ⟨h1,_⟩ := conj_of hq
 obtain ⟨n,rfl⟩ : ∃ n:Nat,p0 = n := ⟨p0.toNat,by omega⟩
 have s32 := u_shrk n 32 (by decide)
 have s16 := u_shrk n 16 (by decide)
 have s8 := u_shrk n 8 (by decide)
 have t16 := u_shrk (n / 2 ^ 32) 16 (by decide)
 have t8 := u_shrk (n / 2 ^ 32) 8 (by decide)
 have r8 := u_shrk (n / 2 ^ 16) 8 (by decide)
 have q8 := u_shrk (n / 2 ^ 32 / 2 ^ 16) 8 (by decide)
 simp only [show ((32:Nat):Int)=32 from rfl,show ((16:Nat):Int)=16 from rfl,show ((8:Nat):Int)=8 from rfl] at s32 s16 s8 t16 t8 r8 q8
 simp only [pre_Zu,fM,s32,s16,s8,t16,t8,r8,q8,show ((ByteArray.size lenTab:Nat):Int)=256 from rfl,decide_eq_true_eq,decide_eq_false_iff_not]
 have z:∀ m:Nat,m < 256→(0≤IntKind.u8.wrap (m:Int)∧IntKind.u8.wrap (m:Int) < 256) := fun m hm => by rw [u_w8 hm]; omega
 refine ⟨fun a b c => (z _ (by omega)).1,fun a b c => (z _ (by omega)).2,fun a b c => (z _ (by omega)).1,fun a b c => (z _ (by omega)).2,fun a b c => (z _ (by omega)).1,fun a b c => (z _ (by omega)).2,fun a b c => (z _ (by omega)).1,fun a b c => (z _ (by omega)).2,fun a b c => (z _ (by omega)).1,fun a b c => (z _ (by omega)).2,fun a b c => (z _ (by omega)).1,fun a b c => (z _ (by omega)).2,fun a b c => (z _ (by omega)).1,fun a b c => (z _ (by omega)).2,fun a b c => (z _ (by omega)).1,fun a b c => (z _ (by omega)).2,by simp⟩
theorem tt_Zu (p0:Int) (hq:∀ p∈qre_Zu p0,p):s_Zu p0 = t_Zu p0 := by
 obtain ⟨h1,_⟩ := conj_of hq
 obtain ⟨n,rfl⟩ : ∃ n:Nat,p0 = n := ⟨p0.toNat,by omega⟩
 have s32 := u_shrk n 32 (by decide)
 have s16 := u_shrk n 16 (by decide)
 have s8 := u_shrk n 8 (by decide)
 have t16 := u_shrk (n / 2 ^ 32) 16 (by decide)
 have t8 := u_shrk (n / 2 ^ 32) 8 (by decide)
 have r8 := u_shrk (n / 2 ^ 16) 8 (by decide)
 have q8 := u_shrk (n / 2 ^ 32 / 2 ^ 16) 8 (by decide)
 simp only [show ((32:Nat):Int)=32 from rfl,show ((16:Nat):Int)=16 from rfl,show ((8:Nat):Int)=8 from rfl] at s32 s16 s8 t16 t8 r8 q8
 unfold s_Zu t_Zu
 rw [Int.toNat_natCast]
 simp only [s32,s16,s8,t16,t8,r8,q8]
 have fin:∀ m k:Nat,m < 256→k≤56→v_ln n = k + v_ln m→IntKind.i64.wrap ((k:Int) + IntKind.i64.wrap (v_six lenTab (IntKind.u8.wrap (m:Int))))=(v_ln n:Int) := fun m k hm hk e => by
  have hl:v_ln m≤8 := by
   rcases Nat.eq_zero_or_pos m with z | z
   ·subst z; decide
   ·obtain ⟨j,e,b,_⟩ := v_ln_bd (n := m) (by omega)
    rcases Nat.lt_or_ge j 8 with g | g
    ·omega
    ·have := Nat.pow_le_pow_right (show 0 < 2 by decide) g
     omega
  rw [u_w8 hm,v_ln_tab hm,wrap_id (n := (v_ln m:Int)) (by omega) (by omega),wrap_id (n := (k:Int) + (v_ln m:Int)) (by omega) (by omega)]
  omega
 have fin0:n < 256→IntKind.i64.wrap (v_six lenTab (IntKind.u8.wrap (n:Int)))=(v_ln n:Int)∧IntKind.i64.wrap (0 + IntKind.i64.wrap (v_six lenTab (IntKind.u8.wrap (n:Int))))=(v_ln n:Int) := fun hn => by
  have := fin n 0 hn (by omega) (by omega)
  have e:IntKind.i64.wrap (v_six lenTab (IntKind.u8.wrap (n:Int)))=(v_ln n:Int) := by
   have hl:v_ln n≤8 := by
    rcases Nat.eq_zero_or_pos n with z | z
    ·subst z; decide
    ·obtain ⟨j,e,b,_⟩ := v_ln_bd (n := n) (by omega)
     rcases Nat.lt_or_ge j 8 with g | g
     ·omega
     ·have := Nat.pow_le_pow_right (show 0 < 2 by decide) g
      omega
   rw [u_w8 hn,v_ln_tab hn,wrap_id (n := (v_ln n:Int)) (by omega) (by omega)]
  exact ⟨e,this⟩
 cases a:decide ((n:Int) ≥ 4294967296)
 ·have a := of_decide_eq_false a
  simp only [cond_false]
  cases b:decide ((n:Int) ≥ 65536)
  ·have b := of_decide_eq_false b
   simp only [cond_false]
   cases c:decide ((n:Int) ≥ 256)
   ·have c := of_decide_eq_false c
    obtain ⟨f1,f2⟩ := fin0 (by omega)
    first | exact f1 | exact f2
   ·have c := of_decide_eq_true c
    exact fin _ 8 (by omega) (by omega) (v_ln_div (s := 8) (by omega))
  ·have b := of_decide_eq_true b
   simp only [cond_true]
   have e1 := v_ln_div (n := n) (s := 16) (by omega)
   cases c:decide (((n / 2 ^ 16:Nat):Int) ≥ 256)
   ·have c := of_decide_eq_false c
    exact fin _ 16 (by omega) (by omega) e1
   ·have c := of_decide_eq_true c
    have e2 := v_ln_div (n := n / 2 ^ 16) (s := 8) (by omega)
    exact fin _ 24 (by omega) (by omega) (by omega)
 ·have a := of_decide_eq_true a
  simp only [cond_true]
  have e0 := v_ln_div (n := n) (s := 32) (by omega)
  cases b:decide (((n / 2 ^ 32:Nat):Int) ≥ 65536)
  ·have b := of_decide_eq_false b
   simp only [cond_false]
   cases c:decide (((n / 2 ^ 32:Nat):Int) ≥ 256)
   ·have c := of_decide_eq_false c
    exact fin _ 32 (by omega) (by omega) e0
   ·have c := of_decide_eq_true c
    have e2 := v_ln_div (n := n / 2 ^ 32) (s := 8) (by omega)
    exact fin _ 40 (by omega) (by omega) (by omega)
  ·have b := of_decide_eq_true b
   simp only [cond_true]
   have e1 := v_ln_div (n := n / 2 ^ 32) (s := 16) (by omega)
   cases c:decide (((n / 2 ^ 32 / 2 ^ 16:Nat):Int) ≥ 256)
   ·have c := of_decide_eq_false c
    exact fin _ 48 (by omega) (by omega) (by omega)
   ·have c := of_decide_eq_true c
    have e2 := v_ln_div (n := n / 2 ^ 32 / 2 ^ 16) (s := 8) (by omega)
    exact fin _ 56 (by omega) (by omega) (by omega)

abbrev con_Zu:Con := ⟨P_Zu,R_Zu,fun x => qre_Zu x,fun x => t_Zu x⟩
theorem ok_Zu:ConOk Try.prog 131 con_Zu := okG k_Zu e_Zu hC_Zu fun x hx => tf_of (w_Zu_eq x _) (d_Zu x _ (pp_Zu x hx) (tt_Zu x hx))
def C_Zr:Cons := [(131,[],con_Zu)]
theorem hC_Zr:ConsOk Try.prog C_Zr := cC ok_Zu <| ConsOk.nil
def w_Zr (p0:Int) (K:Int→Prop):Prop := (((zz0≤p0) ∧(p0 < 18446744073709551616)) ∧(K (IntKind.i64.wrap ((64:Int) - (((v_ln p0.toNat):Nat):Int)))))
theorem w_Zr_eq (p0:Int) (K:Int→Prop):tfn F_Zr A_Zr C_Zr P_Zr R_Zr p0 K = w_Zr p0 K := by kernel_rfl
def s_Zr (p0:Int):Int := (IntKind.i64.wrap ((64:Int) - (((v_ln p0.toNat):Nat):Int)))
abbrev pre_Zr (p0:Int):List Prop := [(((0:Int)≤p0)∧(p0 < 18446744073709551616))]
theorem d_Zr (p0:Int) (K:Int→Prop) (hp:∀ p∈pre_Zr p0,p) (h:K (s_Zr p0)):w_Zr p0 K := by
 unfold w_Zr
 unfold s_Zr at h
 obtain ⟨hp0,_⟩ := conj_of hp
 exact ⟨(hp0),h⟩
abbrev t_Zr (p0:Int):Int := (64 - v_ln p0.toNat:Int)
abbrev qre_Zr (p0:Int):List Prop := [0≤p0∧p0 < 18446744073709551616]
theorem pp_Zr (p0:Int) (hq:∀ p∈qre_Zr p0,p):∀ p∈pre_Zr p0,p := by
 obtain ⟨h1,_⟩ := conj_of hq
 simp only [pre_Zr,fM]
 exact ⟨h1,by simp⟩
theorem tt_Zr (p0:Int) (hq:∀ p∈qre_Zr p0,p):s_Zr p0 = t_Zr p0 := by
 obtain ⟨h1,_⟩ := conj_of hq
 have hl:v_ln p0.toNat≤64 := by
  rcases Nat.eq_zero_or_pos p0.toNat with z | z
  ·rw [z]; decide
  ·obtain ⟨j,e,b,_⟩ := v_ln_bd (n := p0.toNat) (by omega)
   rcases Nat.lt_or_ge j 64 with g | g
   ·omega
   ·have := Nat.pow_le_pow_right (show 0 < 2 by decide) g
    omega
 unfold s_Zr t_Zr
 exact wrap_id (by omega) (by omega)

abbrev con_Zr:Con := ⟨P_Zr,R_Zr,fun x => qre_Zr x,fun x => t_Zr x⟩
theorem ok_Zr:ConOk Try.prog 116 con_Zr := okG k_Zr e_Zr hC_Zr fun x hx => tf_of (w_Zr_eq x _) (d_Zr x _ (pp_Zr x hx) (tt_Zr x hx))
end Go.Proofs.Ytdkhhafmidokmaa
