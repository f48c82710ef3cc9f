/- What the functions that MagnetBest reaches compute: contracts, each function once. No condition. -/
import Derived.Test.YtcdbaepeabefnaaLayB
import Derived.Test.YtcdbaepeabefnaaAwM3MagnetBest
import Derived.KernelRfl
namespace Go.Proofs.Ytcdbaepeabefnaa
open Go Go.Mx
set_option maxRecDepth 100000
set_option maxHeartbeats 4000000
abbrev gF:=List Int
abbrev gG:=Int×Int
abbrev gA:=List (List Int×List Int)
abbrev gB:=List (Int×Int×Int)
abbrev gC:=List (Int×Int)
abbrev gE:=Int×List Int
abbrev gD:=(Int×List Int)×(Int×List Int)
abbrev tQA:=(Int×(Int×(Int×(Int×Int))))
abbrev tQB:=(Int×Int×Int×Int×Int)
abbrev tQC:=(Int×(Int×(Int×(Int×tQA))))
abbrev tQD:=(Int×(Int×(Int×Int)))
abbrev tQE:=(Int×(Int×(Int×(Int×(Int×(Int×(Int×tQC)))))))
abbrev tQF:=(List tQA)
abbrev tQG:=(Int×Int)
abbrev tQH:=(Int×(List Int))
abbrev tQI:=(Int×Int×Int×Int)
abbrev tQJ:=(Int×(Int×(Int×tQA)))
abbrev tQK:=(tQD×(tQD×(tQD×tQD)))
abbrev tQL:=(Int×(tQE×tQD))
abbrev tQM:=(Int×(tQC×tQF))
abbrev tQN:=(Int×((List Int)×Int))
theorem fM.{u} {α:Type u} {p:α→Prop} {a:α} {l:List α}:(∀ x∈a::l,p x) ↔ p a ∧ ∀ x∈l,p x := List.forall_mem_cons
theorem cC {P:Program} {f:FuncId} {ids:List FuncId} {c:Con} {C:Cons} (h:jau P f c) (hC:jag P C) (hm:jj1 ids=false := by rfl):jag P ((f,ids,c)::C) := jag.cons h hC hm
theorem okG {P:Program} {f:FuncId} {F:TFn} {A:Nat→Ty} {C:Cons} {ps rs:List PSh} {pre:(tyPs ps).den→List Prop} {s:(tyPs ps).den→(tyPs rs).den} (k:jan P f=true) (e:cFn P f=some F.erase) (hC:jag P C) (h:∀ x,(∀ p∈pre x,p)→Tf F A C ps rs x (fun z => z=s x)):jau P f ⟨ps,rs,pre,s⟩ := ⟨k,fun x hx => jFw e hC (h x hx)⟩
abbrev wi (n:Int):Int := IntKind.i64.wrap n
abbrev zz0:Int := 0
abbrev zz1:Int := 1
abbrev zz2:Int := 2
abbrev zz3:Int := 3
theorem od {p:Prop} [Decidable p] (h:decide p = true):p := of_decide_eq_true h
theorem nof {p:Prop} (h:false = true):p := Bool.noConfusion h
theorem rf {p:Prop} {α:Sort _} {a:α} (_:p):a = a := rfl
def jdF (a b:Int):Int := -((-a) / b)
abbrev ja1:ByteArray := ⟨#[0,1,2,2,3,3,3,3,4,4,4,4,4,4,4,4,5,5,5,5,5,5,5,5,5,5,5,5,5,5,5,5,6,6,6,6,6,6,6,6,6,6,6,6,6,6,6,6,6,6,6,6,6,6,6,6,6,6,6,6,6,6,6,6,7,7,7,7,7,7,7,7,7,7,7,7,7,7,7,7,7,7,7,7,7,7,7,7,7,7,7,7,7,7,7,7,7,7,7,7,7,7,7,7,7,7,7,7,7,7,7,7,7,7,7,7,7,7,7,7,7,7,7,7,7,7,7,7,8,8,8,8,8,8,8,8,8,8,8,8,8,8,8,8,8,8,8,8,8,8,8,8,8,8,8,8,8,8,8,8,8,8,8,8,8,8,8,8,8,8,8,8,8,8,8,8,8,8,8,8,8,8,8,8,8,8,8,8,8,8,8,8,8,8,8,8,8,8,8,8,8,8,8,8,8,8,8,8,8,8,8,8,8,8,8,8,8,8,8,8,8,8,8,8,8,8,8,8,8,8,8,8,8,8,8,8,8,8,8,8,8,8,8,8,8,8,8,8,8,8,8,8,8,8,8,8]⟩
def jqh:Cons := []
theorem jx9:jag Try.prog jqh := jag.nil
def jkP (p0:tQF) (K:Bool→Prop):Prop := (K (decide ((p0.length:Int)≤22)))
theorem jya (p0:tQF) (K:Bool→Prop):tfn joU jwy jqh joV joW p0 K = jkP p0 K := by kernel_rfl
def jkQ (p0:tQF):Bool := (decide ((p0.length:Int)≤22))
abbrev jqi (_p0:tQF):List Prop := []
theorem jyb (p0:tQF) (K:Bool→Prop) (_hp:∀ p∈jqi p0,p) (h:K (jkQ p0)):jkP p0 K := by
 unfold jkP
 unfold jkQ at h
 exact h
abbrev jqj:Con := ⟨joV,joW,fun x => jqi x,fun x => jkQ x⟩
theorem jyc:jau Try.prog 5 jqj := okG jwA jwz jx9 fun x hx => jaA (jya x _) (jyb x _ hx rfl)
def C_Z5:Cons := []
theorem jyd:jag Try.prog C_Z5 := jag.nil
def w_Z5 (p0:Int) (p1:Int) (p2:Int) (K:Bool→Prop):Prop := ((((decide (p1≤p0))=true) →((decide (p1≤p0))=(decide (p1≤p0)))) ∧((((decide (p1≤p0))=true) →((decide (p1≤p0))=(decide (p1≤p0)))) ∧(((decide (p1≤p0))=(decide (p1≤p0))) ∧(K (cond (decide (p1≤p0)) (decide (p0≤p2)) false)))))
theorem jye (p0:Int) (p1:Int) (p2:Int) (K:Bool→Prop):tfn F_Z5 A_Z5 C_Z5 P_Z5 R_Z5 (p0,p1,p2) K = w_Z5 p0 p1 p2 K := by kernel_rfl
def s_Z5 (p0:Int) (p1:Int) (p2:Int):Bool := (cond (decide (p1≤p0)) (decide (p0≤p2)) false)
abbrev jqk (_p0:Int) (_p1:Int) (_p2:Int):List Prop := []
theorem d_Z5 (p0:Int) (p1:Int) (p2:Int) (K:Bool→Prop) (_hp:∀ p∈jqk p0 p1 p2,p) (h:K (s_Z5 p0 p1 p2)):w_Z5 p0 p1 p2 K := by
 unfold w_Z5
 unfold s_Z5 at h
 exact ⟨rf,rf,rfl,h⟩
abbrev jeU:Con := ⟨P_Z5,R_Z5,fun x => jqk x.1 x.2.1 x.2.2,fun x => s_Z5 x.1 x.2.1 x.2.2⟩
theorem jfH:jau Try.prog 11 jeU := okG k_Z5 e_Z5 jyd fun x hx => jaA (jye x.1 x.2.1 x.2.2 _) (d_Z5 x.1 x.2.1 x.2.2 _ hx rfl)
theorem jbS {n lo hi:Int}:s_Z5 n lo hi = true ↔ lo≤n∧n≤hi := by unfold s_Z5; simp
def C_Z8:Cons := []
theorem jyf:jag Try.prog C_Z8 := jag.nil
def w_Z8 (p0:Int) (p1:Int) (p2:Int) (K:Bool→Prop):Prop := ((((decide (p1≤p0))=true) →((decide (p1≤p0))=(decide (p1≤p0)))) ∧((((decide (p1≤p0))=true) →((decide (p1≤p0))=(decide (p1≤p0)))) ∧(((decide (p1≤p0))=(decide (p1≤p0))) ∧(K (cond (decide (p1≤p0)) (decide (p0≤p2)) false)))))
theorem jyg (p0:Int) (p1:Int) (p2:Int) (K:Bool→Prop):tfn F_Z8 A_Z8 C_Z8 P_Z8 R_Z8 (p0,p1,p2) K = w_Z8 p0 p1 p2 K := by kernel_rfl
def s_Z8 (p0:Int) (p1:Int) (p2:Int):Bool := (cond (decide (p1≤p0)) (decide (p0≤p2)) false)
abbrev jql (_p0:Int) (_p1:Int) (_p2:Int):List Prop := []
theorem d_Z8 (p0:Int) (p1:Int) (p2:Int) (K:Bool→Prop) (_hp:∀ p∈jql p0 p1 p2,p) (h:K (s_Z8 p0 p1 p2)):w_Z8 p0 p1 p2 K := by
 unfold w_Z8
 unfold s_Z8 at h
 exact ⟨rf,rf,rfl,h⟩
abbrev jgt:Con := ⟨P_Z8,R_Z8,fun x => jql x.1 x.2.1 x.2.2,fun x => s_Z8 x.1 x.2.1 x.2.2⟩
theorem jid:jau Try.prog 58 jgt := okG k_Z8 e_Z8 jyf fun x hx => jaA (jyg x.1 x.2.1 x.2.2 _) (d_Z8 x.1 x.2.1 x.2.2 _ hx rfl)
theorem jfI {n lo hi:Int}:s_Z8 n lo hi = s_Z5 n lo hi := rfl
def jqm:Cons := [(11,[],jeU)]
theorem jyh:jag Try.prog jqm := cC jfH <| jag.nil
def jkR (p0:Int) (K:Bool→Prop):Prop := (K (s_Z5 p0 zz0 (1000000000000:Int)))
theorem jyi (p0:Int) (K:Bool→Prop):tfn jpK jxC jqm jpL jpM p0 K = jkR p0 K := by kernel_rfl
def jie (p0:Int):Bool := (s_Z5 p0 (0:Int) (1000000000000:Int))
abbrev jqn (_p0:Int):List Prop := []
theorem jyj (p0:Int) (K:Bool→Prop) (_hp:∀ p∈jqn p0,p) (h:K (jie p0)):jkR p0 K := by
 unfold jkR
 unfold jie at h
 exact h
abbrev jqo:Con := ⟨jpL,jpM,fun x => jqn x,fun x => jie x⟩
theorem jyk:jau Try.prog 79 jqo := okG jxE jxD jyh fun x hx => jaA (jyi x _) (jyj x _ hx rfl)
def jqp:Cons := [(11,[],jeU)]
theorem jyl:jag Try.prog jqp := cC jfH <| jag.nil
def jkS (p0:Int) (K:Bool→Prop):Prop := (K (s_Z5 p0 (-10:Int) (10:Int)))
theorem jym (p0:Int) (K:Bool→Prop):tfn jpN jxF jqp jpO jpP p0 K = jkS p0 K := by kernel_rfl
def jif (p0:Int):Bool := (s_Z5 p0 (-10:Int) (10:Int))
abbrev jqq (_p0:Int):List Prop := []
theorem jyn (p0:Int) (K:Bool→Prop) (_hp:∀ p∈jqq p0,p) (h:K (jif p0)):jkS p0 K := by
 unfold jkS
 unfold jif at h
 exact h
abbrev jqr:Con := ⟨jpO,jpP,fun x => jqq x,fun x => jif x⟩
theorem jyo:jau Try.prog 80 jqr := okG jxH jxG jyl fun x hx => jaA (jym x _) (jyn x _ hx rfl)
def jqs:Cons := [(11,[],jeU)]
theorem jyp:jag Try.prog jqs := cC jfH <| jag.nil
def jkT (p0:Int) (K:Bool→Prop):Prop := (K (s_Z5 p0 (-100000:Int) (100000:Int)))
theorem jyq (p0:Int) (K:Bool→Prop):tfn jpQ jxI jqs jpR jpS p0 K = jkT p0 K := by kernel_rfl
def jig (p0:Int):Bool := (s_Z5 p0 (-100000:Int) (100000:Int))
abbrev jqt (_p0:Int):List Prop := []
theorem jyr (p0:Int) (K:Bool→Prop) (_hp:∀ p∈jqt p0,p) (h:K (jig p0)):jkT p0 K := by
 unfold jkT
 unfold jig at h
 exact h
abbrev jqu:Con := ⟨jpR,jpS,fun x => jqt x,fun x => jig x⟩
theorem jys:jau Try.prog 81 jqu := okG jxK jxJ jyp fun x hx => jaA (jyq x _) (jyr x _ hx rfl)
def C_Z6:Cons := [(79,[],jqo),(80,[],jqr),(81,[],jqu)]
theorem jyt:jag Try.prog C_Z6 := cC jyk <| cC jyo <| cC jys <| jag.nil
abbrev jcU (p0:tQF) (y1:Int) := (!(s_Z5 (p0.getD y1.toNat (zz0,(zz0,(zz0,(zz0,zz0))))).1 zz0 (1000000000000:Int)))
abbrev jcV (p0:tQF) (y1:Int) := (cond (jcU p0 y1) true (!(s_Z5 (p0.getD y1.toNat (zz0,(zz0,(zz0,(zz0,zz0))))).2.1 (-10:Int) (10:Int))))
abbrev jcW (p0:tQF) (y1:Int) := (cond (jcV p0 y1) true (!(s_Z5 (p0.getD y1.toNat (zz0,(zz0,(zz0,(zz0,zz0))))).2.2.1 (-10:Int) (10:Int))))
abbrev jcF (p0:tQF) (y1:Int) := (cond (jcW p0 y1) true (!(s_Z5 (p0.getD y1.toNat (zz0,(zz0,(zz0,(zz0,zz0))))).2.2.2.1 (-10:Int) (10:Int))))
def w_Z6 (p0:tQF) (K:tQG→Prop):Prop := (((((p0.length:Int) == zz0)=true) →(K (zz0,(10:Int)))) ∧((((p0.length:Int) == zz0)=false) →((((decide ((p0.length:Int) > 20))=true) →(K (zz0,(8:Int)))) ∧(((decide ((p0.length:Int) > 20))=false) →(∃ n0,(jaX (fun (y1:Int) k2 => ((((decide (y1 < (p0.length:Int)))=true) →((zz0≤y1) ∧((y1 < (p0.length:Int)) ∧((((jcU p0 y1)=false) →((jcU p0 y1)=(jcU p0 y1))) ∧((((jcU p0 y1)=false) →((jcU p0 y1)=(jcU p0 y1))) ∧((((jcU p0 y1)=false) →((jcU p0 y1)=(jcU p0 y1))) ∧(((jcU p0 y1)=(jcU p0 y1)) ∧((((jcV p0 y1)=false) →((jcV p0 y1)=(jcV p0 y1))) ∧((((jcV p0 y1)=false) →((jcV p0 y1)=(jcV p0 y1))) ∧((((jcV p0 y1)=false) →((jcV p0 y1)=(jcV p0 y1))) ∧(((jcV p0 y1)=(jcV p0 y1)) ∧((((jcW p0 y1)=false) →((jcW p0 y1)=(jcW p0 y1))) ∧((((jcW p0 y1)=false) →((jcW p0 y1)=(jcW p0 y1))) ∧((((jcW p0 y1)=false) →((jcW p0 y1)=(jcW p0 y1))) ∧(((jcW p0 y1)=(jcW p0 y1)) ∧((((jcF p0 y1)=false) →((jcF p0 y1)=(jcF p0 y1))) ∧((((jcF p0 y1)=false) →((jcF p0 y1)=(jcF p0 y1))) ∧((((jcF p0 y1)=false) →((jcF p0 y1)=(jcF p0 y1))) ∧(((jcF p0 y1)=(jcF p0 y1)) ∧((((cond (jcF p0 y1) true (!(s_Z5 (p0.getD y1.toNat (zz0,(zz0,(zz0,(zz0,zz0))))).2.2.2.2 (-100000:Int) (100000:Int))))=true) →(K (y1,zz2))) ∧(((cond (jcF p0 y1) true (!(s_Z5 (p0.getD y1.toNat (zz0,(zz0,(zz0,(zz0,zz0))))).2.2.2.2 (-100000:Int) (100000:Int))))=false) →((((decide (y1 > zz0))=true) →((decide (y1 > zz0))=(decide (y1 > zz0)))) ∧((((decide (y1 > zz0))=true) →((decide (y1 > zz0))=(decide (y1 > zz0)))) ∧((((decide (y1 > zz0))=true) →((decide (y1 > zz0))=(decide (y1 > zz0)))) ∧((((decide (y1 > zz0))=true) →((decide (y1 > zz0))=(decide (y1 > zz0)))) ∧((((decide (y1 > zz0))=true) →(zz0≤(wi (y1 - zz1)))) ∧((((decide (y1 > zz0))=true) →((wi (y1 - zz1)) < (p0.length:Int))) ∧((((decide (y1 > zz0))=true) →((decide (y1 > zz0))=(decide (y1 > zz0)))) ∧((((decide (y1 > zz0))=true) →((decide (y1 > zz0))=(decide (y1 > zz0)))) ∧((((decide (y1 > zz0))=true) →((decide (y1 > zz0))=(decide (y1 > zz0)))) ∧((((decide (y1 > zz0))=true) →((decide (y1 > zz0))=(decide (y1 > zz0)))) ∧(((decide (y1 > zz0))=(decide (y1 > zz0))) ∧((((cond (decide (y1 > zz0)) (decide ((p0.getD y1.toNat (zz0,(zz0,(zz0,(zz0,zz0))))).1≤(p0.getD (Int.toNat (wi (y1 - zz1))) (zz0,(zz0,(zz0,(zz0,zz0))))).1)) false)=true) →(K (y1,(9:Int)))) ∧(((cond (decide (y1 > zz0)) (decide ((p0.getD y1.toNat (zz0,(zz0,(zz0,(zz0,zz0))))).1≤(p0.getD (Int.toNat (wi (y1 - zz1))) (zz0,(zz0,(zz0,(zz0,zz0))))).1)) false)=false) →(k2 (wi (y1 + zz1))))))))))))))))))))))))))))))))))))) ∧(((decide (y1 < (p0.length:Int)))=false) →(K (zz0,zz0))))) n0 zz0))))))
theorem jyu (p0:tQF) (K:tQG→Prop):tfn F_Z6 A_Z6 C_Z6 P_Z6 R_Z6 p0 K = w_Z6 p0 K := by kernel_rfl
def jeV (p0:tQF) (y2:Int):Int ⊕ tQG := (cond (decide (y2 < (p0.length:Int))) (cond (cond (cond (cond (cond (!(s_Z5 (p0.getD y2.toNat ((0:Int),((0:Int),((0:Int),(0,0))))).1 (0:Int) (1000000000000:Int))) true (!(s_Z5 (p0.getD y2.toNat ((0:Int),((0:Int),((0:Int),(0,0))))).2.1 (-10:Int) (10:Int)))) true (!(s_Z5 (p0.getD y2.toNat ((0:Int),((0:Int),((0:Int),(0,0))))).2.2.1 (-10:Int) (10:Int)))) true (!(s_Z5 (p0.getD y2.toNat ((0:Int),((0:Int),((0:Int),(0,0))))).2.2.2.1 (-10:Int) (10:Int)))) true (!(s_Z5 (p0.getD y2.toNat ((0:Int),((0:Int),((0:Int),(0,0))))).2.2.2.2 (-100000:Int) (100000:Int)))) (Sum.inr (y2,(2:Int))) (cond (cond (decide (y2 > 0)) (decide ((p0.getD y2.toNat ((0:Int),((0:Int),((0:Int),(0,0))))).1≤(p0.getD (Int.toNat (IntKind.i64.wrap (y2 - 1))) ((0:Int),((0:Int),((0:Int),(0,0))))).1)) false) (Sum.inr (y2,(9:Int))) (Sum.inl (IntKind.i64.wrap (y2 + 1))))) (Sum.inr (0,0)))
abbrev jih (p0:tQF) (y2:Int):List Prop := [(((decide (y2 < (p0.length:Int)))=true)→((0:Int)≤y2)),(((decide (y2 < (p0.length:Int)))=true)→(y2 < (p0.length:Int))),(((decide (y2 < (p0.length:Int)))=true)→(((cond (cond (cond (cond (!(s_Z5 (p0.getD y2.toNat ((0:Int),((0:Int),((0:Int),(0,0))))).1 (0:Int) (1000000000000:Int))) true (!(s_Z5 (p0.getD y2.toNat ((0:Int),((0:Int),((0:Int),(0,0))))).2.1 (-10:Int) (10:Int)))) true (!(s_Z5 (p0.getD y2.toNat ((0:Int),((0:Int),((0:Int),(0,0))))).2.2.1 (-10:Int) (10:Int)))) true (!(s_Z5 (p0.getD y2.toNat ((0:Int),((0:Int),((0:Int),(0,0))))).2.2.2.1 (-10:Int) (10:Int)))) true (!(s_Z5 (p0.getD y2.toNat ((0:Int),((0:Int),((0:Int),(0,0))))).2.2.2.2 (-100000:Int) (100000:Int))))=false)→(((decide (y2 > 0))=true)→((0:Int)≤(IntKind.i64.wrap (y2 - 1)))))),(((decide (y2 < (p0.length:Int)))=true)→(((cond (cond (cond (cond (!(s_Z5 (p0.getD y2.toNat ((0:Int),((0:Int),((0:Int),(0,0))))).1 (0:Int) (1000000000000:Int))) true (!(s_Z5 (p0.getD y2.toNat ((0:Int),((0:Int),((0:Int),(0,0))))).2.1 (-10:Int) (10:Int)))) true (!(s_Z5 (p0.getD y2.toNat ((0:Int),((0:Int),((0:Int),(0,0))))).2.2.1 (-10:Int) (10:Int)))) true (!(s_Z5 (p0.getD y2.toNat ((0:Int),((0:Int),((0:Int),(0,0))))).2.2.2.1 (-10:Int) (10:Int)))) true (!(s_Z5 (p0.getD y2.toNat ((0:Int),((0:Int),((0:Int),(0,0))))).2.2.2.2 (-100000:Int) (100000:Int))))=false)→(((decide (y2 > 0))=true)→((IntKind.i64.wrap (y2 - 1)) < (p0.length:Int)))))]
def s_Z6 (p0:tQF):tQG := (cond ((p0.length:Int) == 0) ((0:Int),(10:Int)) (cond (decide ((p0.length:Int) > 20)) ((0:Int),(8:Int)) (lpv (0,0) (jeV p0) (0:Int))))
abbrev jkU (p0:tQF):List Prop := [((((p0.length:Int) == 0)=false)→(((decide ((p0.length:Int) > 20))=false)→(OkL (jeV p0) (jih p0) (0:Int))))]
theorem d_Z6 (p0:tQF) (K:tQG→Prop) (hp:∀ p∈jkU p0,p) (h:K (s_Z6 p0)):w_Z6 p0 K := by
 unfold w_Z6
 unfold s_Z6 at h
 obtain ⟨hp0,_⟩ := jah hp
 exact (br' h (fun e0 h => h)
  (fun e0 h => (br' h (fun e1 h => h)
  (fun e1 h => (ja5 (hp0 e0 e1) h (fun y2 k2 hp h => by
 unfold jeV at h; obtain ⟨hp0,hp1,hp2,hp3,_⟩ := jah hp
 exact (br' h (fun e3 h => ⟨(hp0 e3),(hp1 e3),rf,rf,rf,rfl,rf,rf,rf,rfl,rf,rf,rf,rfl,rf,rf,rf,rfl,(br' h (fun e4 h => h)
  (fun e4 h => ⟨rf,rf,rf,rf,(hp2 e3 e4),(hp3 e3 e4),rf,rf,rf,rf,rfl,(br' h (fun e5 h => h)
  (fun e5 h => h))⟩))⟩)
  (fun e3 h => h))))))))
/-- Whether a sample is valid; what is wrong with one of samples; with samples. -/
def jcG (x:Int×Int×Int×Int×Int):Bool := cond (s_Z5 x.1 0 1000000000000) (cond (s_Z5 x.2.1 (-10) 10) (cond (s_Z5 x.2.2.1 (-10) 10) (cond (s_Z5 x.2.2.2.1 (-10) 10) (s_Z5 x.2.2.2.2 (-100000) 100000) false) false) false) false
def jbZ (l:List tQB) (i:Int) (x:Int×Int×Int×Int×Int):Option tQG := cond (jcG x) (cond (cond (i == 0) true (decide (x.1 > (l.getD (i - 1).toNat (0,0,0,0,0)).1))) none (some (i,9))) (some (i,2))
def v_cs (l:List tQB):Int×Int := cond ((l.length:Int) == 0) (0,10) (cond (decide ((l.length:Int) > 20)) (0,8) (jaZ (jbZ l) (0,0) 0 l))
theorem jyv {x:Int×Int×Int×Int×Int}:cond (cond (cond (cond (!(s_Z5 x.1 0 1000000000000)) true (!(s_Z5 x.2.1 (-10) 10))) true (!(s_Z5 x.2.2.1 (-10) 10))) true (!(s_Z5 x.2.2.2.1 (-10) 10))) true (!(s_Z5 x.2.2.2.2 (-100000) 100000)) = !(jcG x) := by
 unfold jcG
 cases s_Z5 x.1 0 1000000000000 <;> cases s_Z5 x.2.1 (-10) 10 <;> cases s_Z5 x.2.2.1 (-10) 10 <;> cases s_Z5 x.2.2.2.1 (-10) 10 <;> cases s_Z5 x.2.2.2.2 (-100000) 100000 <;> rfl
theorem jqv (p0:List tQB) (hl:p0.length≤20):OkL (jeV p0) (jih p0) 0∧lpv ((0,0):Int×Int) (jeV p0) 0 = jaZ (jbZ p0) ((0,0):Int×Int) 0 p0 := by
 refine jn3 p0 (0,0,0,0,0) (jbZ p0) ((0,0):Int×Int) (jFK hl (by decide)) ?_ ?_
 ·refine ⟨by simp only [jih,fM,decide_eq_true_eq]; simp,by simp [jeV]⟩
 ·intro j hj
  have hj' : (j:Int) < p0.length := by omega
  have hw := jfh (show (j:Int)≤9223372036854775806 by omega)
  have hw2:IntKind.i64.wrap ((j:Int) - 1)=(j:Int) - 1 := jar (by omega) (by omega)
  refine ⟨by simp only [jih,fM,decide_eq_true_eq,Int.toNat_natCast]; rw [hw2]; and_intros <;> first | (intro p hp; cases hp; done) | (intros; first | omega | (simp_all; done) | (simp_all; omega)),?_⟩
  simp only [jeV,hj',decide_true,Int.toNat_natCast,cond_true,hw,jie,jif,jig,jyv,hw2]
  unfold jbZ
  cases jcG (p0.getD j (0,0,0,0,0))
  ·rfl
  ·rcases int0 (j:Int) with ⟨hj0,_,z⟩ | ⟨hj0,_,z⟩ <;> rw [z]
   ·rw [decide_eq_false (show ¬ (j:Int) > 0 by omega)]; rfl
   ·rw [decide_eq_true (show (j:Int) > 0 by omega)]
    rcases dec0 (a := (p0.getD ((j:Int) - 1).toNat (0,0,0,0,0)).1) (b := (p0.getD j (0,0,0,0,0)).1) with ⟨_,c1,c2,c3,c4⟩ | ⟨_,c1,c2,c3,c4⟩ <;> simp only [c3,c4] <;> rfl
abbrev t_Z6 (p0:List tQB):Int×Int := v_cs p0
abbrev jkV (_p0:List tQB):List Prop := []
theorem jyw (p0:List tQB) (_hq:∀ p∈jkV p0,p):∀ p∈jkU p0,p := by
 simp only [jkU,fM]
 exact ⟨fun _ h => (jqv p0 (by have := of_decide_eq_false h; omega)).1,by simp⟩
theorem jyx (p0:List tQB) (_hq:∀ p∈jkV p0,p):s_Z6 p0 = t_Z6 p0 := by
 unfold s_Z6 t_Z6 v_cs
 cases h:decide ((p0.length:Int) > 20)
 ·rw [(jqv p0 (by have := of_decide_eq_false h; omega)).2]
 ·rfl

abbrev jqw:Con := ⟨P_Z6,R_Z6,fun x => jkV x,fun x => t_Z6 x⟩
theorem jyy:jau Try.prog 55 jqw := okG k_Z6 e_Z6 jyt fun x hx => jaA (jyu x _) (d_Z6 x _ (jyw x hx) (jyx x hx))
def jqx:Cons := [(55,[],jqw)]
theorem jyz:jag Try.prog jqx := cC jyy <| jag.nil
def jkW (p0:tQF) (K:Int→Prop):Prop := (K (v_cs p0).2)
theorem jyA (p0:tQF) (K:Int→Prop):tfn jpa jwY jqx jpb jpc p0 K = jkW p0 K := by kernel_rfl
def jkX (p0:tQF):Int := (v_cs p0).2
abbrev jqy (_p0:tQF):List Prop := []
theorem jyB (p0:tQF) (K:Int→Prop) (_hp:∀ p∈jqy p0,p) (h:K (jkX p0)):jkW p0 K := by
 unfold jkW
 unfold jkX at h
 exact h
abbrev jqz:Con := ⟨jpb,jpc,fun x => jqy x,fun x => jkX x⟩
theorem jyC:jau Try.prog 24 jqz := okG jw0 jwZ jyz fun x hx => jaA (jyA x _) (jyB x _ hx rfl)
def jqA:Cons := []
theorem jyD:jag Try.prog jqA := jag.nil
def jkY (p0:Int) (p1:Int) (K:Bool→Prop):Prop := ((zz0≤p1) ∧(K ((jam .i64 (jab .i64 p0 p1) zz1) == 1)))
theorem jyE (p0:Int) (p1:Int) (K:Bool→Prop):tfn jh2 jw6 jqA jpj jpk (p0,p1) K = jkY p0 p1 K := by kernel_rfl
def jkZ (p0:Int) (p1:Int):Bool := ((jam .i64 (jab .i64 p0 p1) (1:Int)) == 1)
abbrev jqB (_p0:Int) (p1:Int):List Prop := [((0:Int)≤p1)]
theorem jyF (p0:Int) (p1:Int) (K:Bool→Prop) (hp:∀ p∈jqB p0 p1,p) (h:K (jkZ p0 p1)):jkY p0 p1 K := by
 unfold jkY
 unfold jkZ at h
 obtain ⟨hp0,_⟩ := jah hp
 exact ⟨(hp0),h⟩
abbrev jk0:Con := ⟨jpj,jpk,fun x => jqB x.1 x.2,fun x => jkZ x.1 x.2⟩
theorem jqC:jau Try.prog 37 jk0 := okG jw7 jpl jyD fun x hx => jaA (jyE x.1 x.2 _) (jyF x.1 x.2 _ hx rfl)
def C_Ze:Cons := [(37,[],jk0)]
theorem jyG:jag Try.prog C_Ze := cC jqC <| jag.nil
def w_Ze (p0:Int) (K:(List Int)→Prop):Prop := (∃ n0,(jaX (fun (y1:gE) k2 => ((((decide (y1.1 < 8))=true) →((zz0≤y1.1) ∧(((((jam .i64 (jab .i64 p0 y1.1) zz1) == 1)=true) →((((y1.2.length + (List.length (y1.1 :: ([]:List Int)))) * 8)≤140737488355328) ∧(k2 ((IntKind.i64.wrap (y1.1 + 1)),(y1.2 ++ (y1.1 :: ([]:List Int))))))) ∧((((jam .i64 (jab .i64 p0 y1.1) zz1) == 1)=false) →(k2 ((IntKind.i64.wrap (y1.1 + 1)),y1.2)))))) ∧(((decide (y1.1 < 8))=false) →(K y1.2)))) n0 (zz0,([]:List Int))))
theorem jyH (p0:Int) (K:(List Int)→Prop):tfn F_Ze A_Ze C_Ze P_Ze R_Ze p0 K = w_Ze p0 K := by kernel_rfl
def jea (p0:Int) (y0:gE):tQH ⊕ (List Int) := (cond (decide (y0.1 < 8)) (cond ((jam .i64 (jab .i64 p0 y0.1) (1:Int)) == 1) (Sum.inl ((IntKind.i64.wrap (y0.1 + 1)),(y0.2 ++ (y0.1 :: ([]:List Int))))) (Sum.inl ((IntKind.i64.wrap (y0.1 + 1)),y0.2))) (Sum.inr y0.2))
abbrev jgu (p0:Int) (y0:gE):List Prop := [(((decide (y0.1 < 8))=true)→((0:Int)≤y0.1)),(((decide (y0.1 < 8))=true)→((((jam .i64 (jab .i64 p0 y0.1) (1:Int)) == 1)=true)→(((y0.2.length + (List.length (y0.1 :: ([]:List Int)))) * 8)≤140737488355328)))]
def s_Ze (p0:Int):(List Int) := (lpv [] (jea p0) ((0:Int),([]:List Int)))
abbrev jk1 (p0:Int):List Prop := [(OkL (jea p0) (jgu p0) ((0:Int),([]:List Int)))]
theorem d_Ze (p0:Int) (K:(List Int)→Prop) (hp:∀ p∈jk1 p0,p) (h:K (s_Ze p0)):w_Ze p0 K := by
 unfold w_Ze
 unfold s_Ze at h
 obtain ⟨hp0,_⟩ := jah hp
 exact (ja5 (hp0) h (fun y0 k0 hp h => by
 unfold jea at h; obtain ⟨hp0,hp1,_⟩ := jah hp
 exact (br' h (fun e1 h => ⟨(hp0 e1),(br' h (fun e2 h => ⟨(hp1 e1 e2),h⟩)
  (fun e2 h => h))⟩)
  (fun e1 h => h))))
/-- Whether a term is chosen; the chosen ones below a number. -/
def v_hs (m:Int) (t:Nat):Bool := jam .i64 (jab .i64 m (t:Int)) 1 == 1
def jaa (m:Int):Nat→List Int
 | 0 => []
 | n + 1 => jaa m n ++ cond (v_hs m n) [(n:Int)] []
theorem jk2 (m:Int):∀ n,(jaa m n).length≤n
 | 0 => Nat.le_refl _
 | n + 1 => by
  have := jk2 m n
  unfold jaa
  rw [List.length_append]
  cases v_hs m n
  ·rw [cond_false,List.length_nil]; omega
  ·rw [cond_true,List.length_singleton]; omega
theorem jgv {m:Int} {x:Int}:∀ n,x∈jaa m n ↔ ∃ t,t < n∧v_hs m t = true∧x = (t:Int)
 | 0 => by simp [jaa]
 | n + 1 => by
  unfold jaa
  rw [List.mem_append,jgv n]
  constructor
  ·rintro (⟨t,h1,h2⟩ | h)
   ·exact ⟨t,by omega,h2⟩
   ·cases c:v_hs m n <;> rw [c] at h
    ·cases h
    ·exact ⟨n,by omega,c,List.mem_singleton.1 h⟩
  ·rintro ⟨t,h1,h2,h3⟩
   rcases Nat.lt_or_ge t n with g | g
   ·exact .inl ⟨t,g,h2,h3⟩
   ·obtain rfl:t = n := by omega
    rw [h2]; exact .inr (List.mem_singleton.2 h3)
theorem jqD (p0:Int):OkL (jea p0) (jgu p0) (0,[])∧lpv [] (jea p0) (0,[])=jaa p0 8 := by
 refine @jbN (List Int) (Int×List Int) (List Int) [] (jea p0) (jgu p0) (fun i t => (i,t)) 0 8 (fun j t => t = jaa p0 j) (fun _ _ => jaa p0 8) (by decide) (by decide) ?_ ?_ [] rfl
 ·rintro t rfl
  simp only [jgu,jea,fM,show decide (((8:Nat):Int) < 8)=false from rfl,cond_false]
  refine ⟨?_,by first | rfl | trivial⟩
  repeat' refine And.intro ?_ ?_
  all_goals first
   | (intro h; cases h; done)
   | (intro p hp; cases hp; done)
 ·rintro j t _ hj rfl
  have hl := jk2 p0 j
  have hw1:IntKind.i64.wrap ((j:Int) + 1)=((j + 1:Nat):Int) := jar (by omega) (by omega)
  have hd:decide ((j:Int) < 8)=true := decide_eq_true (by omega)
  have hv:(jam .i64 (jab .i64 p0 (j:Int)) 1 == 1)=v_hs p0 j := rfl
  simp only [jgu,jea,fM,hd,hw1,hv,cond_true]
  have hs:jaa p0 (j + 1)=jaa p0 j ++ cond (v_hs p0 j) [(j:Int)] [] := rfl
  refine ⟨?_,.inl ⟨jaa p0 (j + 1),?_,rfl,by first | rfl | trivial⟩⟩
  ·repeat' refine And.intro ?_ ?_
   all_goals first
    | (intro p hp; cases hp; done)
    | (intros; simp only [List.length_cons,List.length_nil]; omega)
    | (intros; omega)
  ·rw [hs]
   cases v_hs p0 j
   ·rw [cond_false,cond_false,List.append_nil]
   ·rw [cond_true,cond_true]
abbrev t_Ze (p0:Int):List Int := jaa p0 8
abbrev jk3 (_p0:Int):List Prop := []
theorem jyI (p0:Int) (_hq:∀ p∈jk3 p0,p):∀ p∈jk1 p0,p := by
 simp only [jk1,fM]
 exact ⟨(jqD p0).1,by simp⟩
theorem jyJ (p0:Int) (_hq:∀ p∈jk3 p0,p):s_Ze p0 = t_Ze p0 := by
 exact (jqD p0).2

abbrev jii:Con := ⟨P_Ze,R_Ze,fun x => jk3 x,fun x => t_Ze x⟩
theorem jk4:jau Try.prog 29 jii := okG k_Ze e_Ze jyG fun x hx => jaA (jyH x _) (d_Ze x _ (jyI x hx) (jyJ x hx))
def C_Zl:Cons := []
theorem jyK:jag Try.prog C_Zl := jag.nil
def w_Zl (p0:Bool) (p1:Int) (K:Int→Prop):Prop := (((p0 = true) →(K zz0)) ∧((p0 = false) →(K p1)))
theorem jyL (p0:Bool) (p1:Int) (K:Int→Prop):tfn F_Zl A_Zl C_Zl P_Zl R_Zl (p0,p1) K = w_Zl p0 p1 K := by kernel_rfl
def s_Zl (p0:Bool) (p1:Int):Int := (cond p0 (0:Int) p1)
abbrev jqE (_p0:Bool) (_p1:Int):List Prop := []
theorem d_Zl (p0:Bool) (p1:Int) (K:Int→Prop) (_hp:∀ p∈jqE p0 p1,p) (h:K (s_Zl p0 p1)):w_Zl p0 p1 K := by
 unfold w_Zl
 unfold s_Zl at h
 exact (br' h (fun e0 h => h)
  (fun e0 h => h))
abbrev jij:Con := ⟨P_Zl,R_Zl,fun x => jqE x.1 x.2,fun x => s_Zl x.1 x.2⟩
theorem jk5:jau Try.prog 47 jij := okG k_Zl e_Zl jyK fun x hx => jaA (jyL x.1 x.2 _) (d_Zl x.1 x.2 _ hx rfl)
theorem jqF {a:Bool} {x:Int}:s_Zl a x = cond a 0 x := by cases a <;> rfl
def C_Zw:Cons := [(58,[],jgt),(29,[],jii),(47,[],jij)]
theorem jyM:jag Try.prog C_Zw := cC jid <| cC jk4 <| cC jk5 <| jag.nil
def w_Zw (p0:Int) (K:Int→Prop):Prop := ((((!(s_Z8 p0 zz1 (255:Int)))=true) →(K (2:Int))) ∧(((!(s_Z8 p0 zz1 (255:Int)))=false) →(K (s_Zl (decide ((((jaa p0 8).length:Nat):Int)≤4)) (8:Int)))))
theorem jyN (p0:Int) (K:Int→Prop):tfn F_Zw A_Zw C_Zw P_Zw R_Zw p0 K = w_Zw p0 K := by kernel_rfl
def s_Zw (p0:Int):Int := (cond (!(s_Z8 p0 (1:Int) (255:Int))) (2:Int) (s_Zl (decide ((((jaa p0 8).length:Nat):Int)≤4)) (8:Int)))
abbrev jqG (_p0:Int):List Prop := []
theorem d_Zw (p0:Int) (K:Int→Prop) (_hp:∀ p∈jqG p0,p) (h:K (s_Zw p0)):w_Zw p0 K := by
 unfold w_Zw
 unfold s_Zw at h
 exact (br' h (fun e0 h => h)
  (fun e0 h => h))
/-- The error of a model. -/
def jaV (m:Int):Int := cond (s_Z5 m 1 255) (cond (decide (((jaa m 8).length:Int)≤4)) 0 8) 2
abbrev t_Zw (p0:Int):Int := jaV p0
abbrev jk6 (_p0:Int):List Prop := []
theorem jyO (p0:Int) (_hq:∀ p∈jk6 p0,p):∀ p∈jqG p0,p := by
 intro p hp; simp at hp
theorem jyP (p0:Int) (_hq:∀ p∈jk6 p0,p):s_Zw p0 = t_Zw p0 := by
 unfold s_Zw t_Zw jaV
 rw [jfI,jqF]
 cases s_Z5 p0 1 255 <;> rfl

abbrev jk7:Con := ⟨P_Zw,R_Zw,fun x => jk6 x,fun x => t_Zw x⟩
theorem jqH:jau Try.prog 28 jk7 := okG k_Zw e_Zw jyM fun x hx => jaA (jyN x _) (d_Zw x _ (jyO x hx) (jyP x hx))
def C_Zo:Cons := []
theorem jyQ:jag Try.prog C_Zo := jag.nil
def w_Zo (p0:Int) (K:(List Int)→Prop):Prop := (∃ n0,(jaX (fun (y1:gE) k2 => ((((decide (y1.1 < 8))=true) →((zz0≤y1.1) ∧(((((jam .i64 (jab .i64 p0 y1.1) zz1) == 1)=true) →((((y1.2.length + (List.length (y1.1 :: ([]:List Int)))) * 8)≤140737488355328) ∧(k2 ((IntKind.i64.wrap (y1.1 + 1)),(y1.2 ++ (y1.1 :: ([]:List Int))))))) ∧((((jam .i64 (jab .i64 p0 y1.1) zz1) == 1)=false) →(k2 ((IntKind.i64.wrap (y1.1 + 1)),y1.2)))))) ∧(((decide (y1.1 < 8))=false) →(K y1.2)))) n0 (zz0,([]:List Int))))
theorem jyR (p0:Int) (K:(List Int)→Prop):tfn F_Zo A_Zo C_Zo P_Zo R_Zo p0 K = w_Zo p0 K := by kernel_rfl
def jeb (p0:Int) (y0:gE):tQH ⊕ (List Int) := (cond (decide (y0.1 < 8)) (cond ((jam .i64 (jab .i64 p0 y0.1) (1:Int)) == 1) (Sum.inl ((IntKind.i64.wrap (y0.1 + 1)),(y0.2 ++ (y0.1 :: ([]:List Int))))) (Sum.inl ((IntKind.i64.wrap (y0.1 + 1)),y0.2))) (Sum.inr y0.2))
abbrev jgw (p0:Int) (y0:gE):List Prop := [(((decide (y0.1 < 8))=true)→((0:Int)≤y0.1)),(((decide (y0.1 < 8))=true)→((((jam .i64 (jab .i64 p0 y0.1) (1:Int)) == 1)=true)→(((y0.2.length + (List.length (y0.1 :: ([]:List Int)))) * 8)≤140737488355328)))]
def s_Zo (p0:Int):(List Int) := (lpv [] (jeb p0) ((0:Int),([]:List Int)))
abbrev jk8 (p0:Int):List Prop := [(OkL (jeb p0) (jgw p0) ((0:Int),([]:List Int)))]
theorem d_Zo (p0:Int) (K:(List Int)→Prop) (hp:∀ p∈jk8 p0,p) (h:K (s_Zo p0)):w_Zo p0 K := by
 unfold w_Zo
 unfold s_Zo at h
 obtain ⟨hp0,_⟩ := jah hp
 exact (ja5 (hp0) h (fun y0 k0 hp h => by
 unfold jeb at h; obtain ⟨hp0,hp1,_⟩ := jah hp
 exact (br' h (fun e1 h => ⟨(hp0 e1),(br' h (fun e2 h => ⟨(hp1 e1 e2),h⟩)
  (fun e2 h => h))⟩)
  (fun e1 h => h))))
theorem jqI (p0:Int):OkL (jeb p0) (jgw p0) (0,[])∧lpv [] (jeb p0) (0,[])=jaa p0 8 := by
 refine @jbN (List Int) (Int×List Int) (List Int) [] (jeb p0) (jgw p0) (fun i t => (i,t)) 0 8 (fun j t => t = jaa p0 j) (fun _ _ => jaa p0 8) (by decide) (by decide) ?_ ?_ [] rfl
 ·rintro t rfl
  simp only [jgw,jeb,fM,show decide (((8:Nat):Int) < 8)=false from rfl,cond_false]
  refine ⟨?_,by first | rfl | trivial⟩
  repeat' refine And.intro ?_ ?_
  all_goals first
   | (intro h; cases h; done)
   | (intro p hp; cases hp; done)
 ·rintro j t _ hj rfl
  have hl := jk2 p0 j
  have hw1:IntKind.i64.wrap ((j:Int) + 1)=((j + 1:Nat):Int) := jar (by omega) (by omega)
  have hd:decide ((j:Int) < 8)=true := decide_eq_true (by omega)
  have hv:(jam .i64 (jab .i64 p0 (j:Int)) 1 == 1)=v_hs p0 j := rfl
  simp only [jgw,jeb,fM,hd,hw1,hv,cond_true]
  have hs:jaa p0 (j + 1)=jaa p0 j ++ cond (v_hs p0 j) [(j:Int)] [] := rfl
  refine ⟨?_,.inl ⟨jaa p0 (j + 1),?_,rfl,by first | rfl | trivial⟩⟩
  ·repeat' refine And.intro ?_ ?_
   all_goals first
    | (intro p hp; cases hp; done)
    | (intros; simp only [List.length_cons,List.length_nil]; omega)
    | (intros; omega)
  ·rw [hs]
   cases v_hs p0 j
   ·rw [cond_false,cond_false,List.append_nil]
   ·rw [cond_true,cond_true]
abbrev t_Zo (p0:Int):List Int := jaa p0 8
abbrev jk9 (_p0:Int):List Prop := []
theorem jyS (p0:Int) (_hq:∀ p∈jk9 p0,p):∀ p∈jk8 p0,p := by
 simp only [jk8,fM]
 exact ⟨(jqI p0).1,by simp⟩
theorem jyT (p0:Int) (_hq:∀ p∈jk9 p0,p):s_Zo p0 = t_Zo p0 := by
 exact (jqI p0).2

abbrev jqJ:Con := ⟨P_Zo,R_Zo,fun x => jk9 x,fun x => t_Zo x⟩
theorem jyU:jau Try.prog 56 jqJ := okG k_Zo e_Zo jyQ fun x hx => jaA (jyR x _) (d_Zo x _ (jyS x hx) (jyT x hx))
def jqK:Cons := [(11,[],jeU),(56,[],jqJ)]
theorem jyV:jag Try.prog jqK := cC jfH <| cC jyU <| jag.nil
def jla (p0:Int) (K:Int→Prop):Prop := ((((!(s_Z5 p0 zz1 (255:Int)))=true) →(K (2:Int))) ∧(((!(s_Z5 p0 zz1 (255:Int)))=false) →((((decide ((((jaa p0 8).length:Nat):Int) > 4))=true) →(K (8:Int))) ∧(((decide ((((jaa p0 8).length:Nat):Int) > 4))=false) →(K zz0)))))
theorem jyW (p0:Int) (K:Int→Prop):tfn jpd jw1 jqK jpe jpf p0 K = jla p0 K := by kernel_rfl
def jik (p0:Int):Int := (cond (!(s_Z5 p0 (1:Int) (255:Int))) (2:Int) (cond (decide ((((jaa p0 8).length:Nat):Int) > 4)) (8:Int) (0:Int)))
abbrev jqL (_p0:Int):List Prop := []
theorem jyX (p0:Int) (K:Int→Prop) (_hp:∀ p∈jqL p0,p) (h:K (jik p0)):jla p0 K := by
 unfold jla
 unfold jik at h
 exact (br' h (fun e0 h => h)
  (fun e0 h => (br' h (fun e1 h => h)
  (fun e1 h => h))))
abbrev jlb (p0:Int):Int := jaV p0
abbrev jlc (_p0:Int):List Prop := []
theorem jyY (p0:Int) (_hq:∀ p∈jlc p0,p):∀ p∈jqL p0,p := by
 intro p hp; simp at hp
theorem jyZ (p0:Int) (_hq:∀ p∈jlc p0,p):jik p0 = jlb p0 := by
 unfold jik jlb jaV
 cases s_Z5 p0 1 255
 ·rfl
 ·by_cases h:((jaa p0 8).length:Int)≤4
  ·rw [decide_eq_true h,decide_eq_false (show ¬ ((jaa p0 8).length:Int) > 4 by omega)]; rfl
  ·rw [decide_eq_false h,decide_eq_true (show ((jaa p0 8).length:Int) > 4 by omega)]; rfl

abbrev jqM:Con := ⟨jpe,jpf,fun x => jlc x,fun x => jlb x⟩
theorem jy0:jau Try.prog 25 jqM := okG jw3 jw2 jyV fun x hx => jaA (jyW x _) (jyX x _ (jyY x hx) (jyZ x hx))
def jqN:Cons := [(24,[],jqz),(25,[],jqM)]
theorem jy1:jag Try.prog jqN := cC jyC <| cC jy0 <| jag.nil
def jld (p0:tQF) (p1:Int) (K:Int→Prop):Prop := (((((v_cs p0).2 != 0)=true) →(K (v_cs p0).2)) ∧((((v_cs p0).2 != 0)=false) →(K (jaV p1))))
theorem jy2 (p0:tQF) (p1:Int) (K:Int→Prop):tfn joX jwB jqN joY joZ (p0,p1) K = jld p0 p1 K := by kernel_rfl
def jcr (p0:tQF) (p1:Int):Int := (cond ((v_cs p0).2 != 0) (v_cs p0).2 (jaV p1))
abbrev jqO (_p0:tQF) (_p1:Int):List Prop := []
theorem jy3 (p0:tQF) (p1:Int) (K:Int→Prop) (_hp:∀ p∈jqO p0 p1,p) (h:K (jcr p0 p1)):jld p0 p1 K := by
 unfold jld
 unfold jcr at h
 exact (br' h (fun e0 h => h)
  (fun e0 h => h))
abbrev jqP:Con := ⟨joY,joZ,fun x => jqO x.1 x.2,fun x => jcr x.1 x.2⟩
theorem jy4:jau Try.prog 6 jqP := okG jwD jwC jy1 fun x hx => jaA (jy2 x.1 x.2 _) (jy3 x.1 x.2 _ hx rfl)
def jqQ:Cons := []
theorem jy5:jag Try.prog jqQ := jag.nil
def jle (p0:tQF) (K:tQF→Prop):Prop := (((((List.length ([]:List tQA)) + p0.length) * 40)≤140737488355328) ∧(K (([]:List tQA) ++ p0)))
theorem jy6 (p0:tQF) (K:tQF→Prop):tfnO jo0 jwE jqQ jkn jko p0 K = jle p0 K := by kernel_rfl
def jgx (p0:tQF):tQF := (([]:List tQA) ++ p0)
abbrev jqR (p0:tQF):List Prop := [((((List.length ([]:List tQA)) + p0.length) * 40)≤140737488355328)]
theorem jy7 (p0:tQF) (K:tQF→Prop) (hp:∀ p∈jqR p0,p) (h:K (jgx p0)):jle p0 K := by
 unfold jle
 unfold jgx at h
 obtain ⟨hp0,_⟩ := jah hp
 exact ⟨(hp0),h⟩
abbrev jqS:Con := ⟨jkn,[.one (.sl jko)],fun x => jqR x,fun x => jgx x⟩
theorem jy8:jhS Try.prog 8 jqS := jHl (e := jko) (ps := jkn) jwG jwF jy5 (fun x hx => jHk (jy6 x (fun z => z = jgx x)) (jy7 x (fun z => z = jgx x) hx rfl))
def C_Zd:Cons := []
theorem jy9:jag Try.prog C_Zd := jag.nil
def w_Zd (p0:gF) (K:Int→Prop):Prop := (∃ n0,(jaX (fun (y1:Int) k2 => ((((decide (y1 < (p0.length:Int)))=true) →((zz0≤y1) ∧((y1 < (p0.length:Int)) ∧(((((p0.getD y1.toNat zz0) != 0)=true) →(K (p0.getD y1.toNat zz0))) ∧((((p0.getD y1.toNat zz0) != 0)=false) →(k2 (IntKind.i64.wrap (y1 + 1)))))))) ∧(((decide (y1 < (p0.length:Int)))=false) →(K zz0)))) n0 zz0))
theorem jza (p0:gF) (K:Int→Prop):tfn F_Zd A_Zd C_Zd P_Zd R_Zd p0 K = w_Zd p0 K := by kernel_rfl
def jeW (p0:gF) (y0:Int):Int ⊕ Int := (cond (decide (y0 < (p0.length:Int))) (cond ((p0.getD y0.toNat (0:Int)) != 0) (Sum.inr (p0.getD y0.toNat (0:Int))) (Sum.inl (IntKind.i64.wrap (y0 + 1)))) (Sum.inr (0:Int)))
abbrev jil (p0:gF) (y0:Int):List Prop := [(((decide (y0 < (p0.length:Int)))=true)→((0:Int)≤y0)),(((decide (y0 < (p0.length:Int)))=true)→(y0 < (p0.length:Int)))]
def s_Zd (p0:gF):Int := (lpv (0:Int) (jeW p0) (0:Int))
abbrev jlf (p0:gF):List Prop := [(OkL (jeW p0) (jil p0) (0:Int))]
theorem d_Zd (p0:gF) (K:Int→Prop) (hp:∀ p∈jlf p0,p) (h:K (s_Zd p0)):w_Zd p0 K := by
 unfold w_Zd
 unfold s_Zd at h
 obtain ⟨hp0,_⟩ := jah hp
 exact (ja5 (hp0) h (fun y0 k0 hp h => by
 unfold jeW at h; obtain ⟨hp0,hp1,_⟩ := jah hp
 exact (br' h (fun e1 h => ⟨(hp0 e1),(hp1 e1),(br' h (fun e2 h => h)
  (fun e2 h => h))⟩)
  (fun e1 h => h))))
theorem jqT (p0:gF) (hl:jbA p0):OkL (jeW p0) (jil p0) 0∧lpv (0:Int) (jeW p0) 0 = jaZ (fun _ x => cond (x != 0) (some x) none) (0:Int) 0 p0 := by
 refine jn3 p0 0 (fun _ x => cond (x != 0) (some x) none) (0:Int) hl ?_ ?_
 ·refine ⟨by simp only [jil,fM,decide_eq_true_eq]; simp,by simp [jeW]⟩
 ·intro j hj
  have hj' : (j:Int) < p0.length := by omega
  refine ⟨by simp only [jil,fM,decide_eq_true_eq,Int.toNat_natCast]; simp <;> omega,?_⟩
  simp only [jeW,hj',decide_true,Int.toNat_natCast,cond_true,jfh (show (j:Int)≤9223372036854775806 by unfold jbA at hl; omega)]
  generalize p0.getD j 0 = x
  cases (x != 0) <;> rfl
abbrev t_Zd (p0:gF):Int := jaG p0
abbrev jlg (p0:gF):List Prop := [jbA p0]
theorem jzb (p0:gF) (hq:∀ p∈jlg p0,p):∀ p∈jlf p0,p := by
 simp only [jlf,fM]
 exact ⟨(jqT p0 (jah hq).1).1,by simp⟩
theorem jzc (p0:gF) (hq:∀ p∈jlg p0,p):s_Zd p0 = t_Zd p0 := by
 exact (jqT p0 (jah hq).1).2.trans (jud p0 0)

abbrev jgy:Con := ⟨P_Zd,R_Zd,fun x => jlg x,fun x => t_Zd x⟩
theorem jim:jau Try.prog 26 jgy := okG k_Zd e_Zd jy9 fun x hx => jaA (jza x _) (d_Zd x _ (jzb x hx) (jzc x hx))
def jqU:Cons := [(58,[],jgt)]
theorem jzd:jag Try.prog jqU := cC jid <| jag.nil
def jlh (p0:Int) (K:Bool→Prop):Prop := (K (s_Z8 p0 zz0 (1000000000000:Int)))
theorem jze (p0:Int) (K:Bool→Prop):tfn jh7 jxL jqU jpT jpU p0 K = jlh p0 K := by kernel_rfl
def jli (p0:Int):Bool := (s_Z8 p0 (0:Int) (1000000000000:Int))
abbrev jqV (_p0:Int):List Prop := []
theorem jzf (p0:Int) (K:Bool→Prop) (_hp:∀ p∈jqV p0,p) (h:K (jli p0)):jlh p0 K := by
 unfold jlh
 unfold jli at h
 exact h
abbrev jqW:Con := ⟨jpT,jpU,fun x => jqV x,fun x => jli x⟩
theorem jzg:jau Try.prog 83 jqW := okG jxM jpV jzd fun x hx => jaA (jze x _) (jzf x _ hx rfl)
def jqX:Cons := [(58,[],jgt)]
theorem jzh:jag Try.prog jqX := cC jid <| jag.nil
def jlj (p0:Int) (p1:Int) (K:Bool→Prop):Prop := (K (s_Z8 p0 (IntKind.i64.wrap (zz0 - p1)) p1))
theorem jzi (p0:Int) (p1:Int) (K:Bool→Prop):tfn jh6 jxA jqX jpH jpI (p0,p1) K = jlj p0 p1 K := by kernel_rfl
def jlk (p0:Int) (p1:Int):Bool := (s_Z8 p0 (IntKind.i64.wrap ((0:Int) - p1)) p1)
abbrev jqY (_p0:Int) (_p1:Int):List Prop := []
theorem jzj (p0:Int) (p1:Int) (K:Bool→Prop) (_hp:∀ p∈jqY p0 p1,p) (h:K (jlk p0 p1)):jlj p0 p1 K := by
 unfold jlj
 unfold jlk at h
 exact h
abbrev jin:Con := ⟨jpH,jpI,fun x => jqY x.1 x.2,fun x => jlk x.1 x.2⟩
theorem jll:jau Try.prog 66 jin := okG jxB jpJ jzh fun x hx => jaA (jzi x.1 x.2 _) (jzj x.1 x.2 _ hx rfl)
def jqZ:Cons := [(66,[],jin)]
theorem jzk:jag Try.prog jqZ := cC jll <| jag.nil
def jlm (p0:Int) (K:Bool→Prop):Prop := (K (s_Z8 p0 (-10:Int) (10:Int)))
theorem jzl (p0:Int) (K:Bool→Prop):tfn jh8 jxN jqZ jpW jpX p0 K = jlm p0 K := by kernel_rfl
def jln (p0:Int):Bool := (s_Z8 p0 (-10:Int) (10:Int))
abbrev jq0 (_p0:Int):List Prop := []
theorem jzm (p0:Int) (K:Bool→Prop) (_hp:∀ p∈jq0 p0,p) (h:K (jln p0)):jlm p0 K := by
 unfold jlm
 unfold jln at h
 exact h
abbrev jq1:Con := ⟨jpW,jpX,fun x => jq0 x,fun x => jln x⟩
theorem jzn:jau Try.prog 82 jq1 := okG jxO jpY jzk fun x hx => jaA (jzl x _) (jzm x _ hx rfl)
def jq2:Cons := [(66,[],jin)]
theorem jzo:jag Try.prog jq2 := cC jll <| jag.nil
def jlo (p0:Int) (K:Bool→Prop):Prop := (K (s_Z8 p0 (-100000:Int) (100000:Int)))
theorem jzp (p0:Int) (K:Bool→Prop):tfn jh9 jxP jq2 jpZ jp0 p0 K = jlo p0 K := by kernel_rfl
def jlp (p0:Int):Bool := (s_Z8 p0 (-100000:Int) (100000:Int))
abbrev jq3 (_p0:Int):List Prop := []
theorem jzq (p0:Int) (K:Bool→Prop) (_hp:∀ p∈jq3 p0,p) (h:K (jlp p0)):jlo p0 K := by
 unfold jlo
 unfold jlp at h
 exact h
abbrev jq4:Con := ⟨jpZ,jp0,fun x => jq3 x,fun x => jlp x⟩
theorem jzr:jau Try.prog 78 jq4 := okG jxQ jp1 jzo fun x hx => jaA (jzp x _) (jzq x _ hx rfl)
def C_Z4:Cons := [(47,[],jij),(26,[],jgy),(83,[],jqW),(82,[],jq1),(78,[],jq4)]
theorem jzs:jag Try.prog C_Z4 := cC jk5 <| cC jim <| cC jzg <| cC jzn <| cC jzr <| jag.nil
abbrev jeX (p0:tQF) (y1:gG) := (p0.getD y1.1.toNat (zz0,(zz0,(zz0,(zz0,zz0)))))
abbrev jcX (p0:tQF) (y1:gG) := (s_Z8 (jeX p0 y1).1 zz0 (1000000000000:Int))
abbrev jcY (p0:tQF) (y1:gG) := (cond (jcX p0 y1) (s_Z8 (jeX p0 y1).2.1 (-10:Int) (10:Int)) false)
abbrev jcZ (p0:tQF) (y1:gG) := (cond (jcY p0 y1) (s_Z8 (jeX p0 y1).2.2.1 (-10:Int) (10:Int)) false)
abbrev jdG (p0:tQF) (y1:gG) := (cond (jcZ p0 y1) (s_Z8 (jeX p0 y1).2.2.2.1 (-10:Int) (10:Int)) false)
abbrev jio (p0:tQF) (y1:gG) := ((s_Zl (cond (jdG p0 y1) (s_Z8 (jeX p0 y1).2.2.2.2 (-100000:Int) (100000:Int)) false) zz2) :: ((s_Zl (decide ((jeX p0 y1).1 > y1.2)) (9:Int)) :: ([]:List Int)))
abbrev jip (p0:tQF) := ((s_Zl (decide ((p0.length:Int) > zz0)) (10:Int)) :: ((s_Zl (decide ((p0.length:Int)≤20)) (8:Int)) :: ([]:List Int)))
def w_Z4 (p0:tQF) (K:tQG→Prop):Prop := ((jbA (jip p0)) ∧(((((jaG (jip p0)) != zz0)=true) →(K (zz0,(jaG (jip p0))))) ∧((((jaG (jip p0)) != zz0)=false) →(∃ n0,(jaX (fun (y1:gG) k2 => ((((decide (y1.1 < (p0.length:Int)))=true) →((zz0≤y1.1) ∧((y1.1 < (p0.length:Int)) ∧((((jcX p0 y1)=true) →((jcX p0 y1)=(jcX p0 y1))) ∧((((jcX p0 y1)=true) →((jcX p0 y1)=(jcX p0 y1))) ∧((((jcX p0 y1)=true) →((jcX p0 y1)=(jcX p0 y1))) ∧(((jcX p0 y1)=(jcX p0 y1)) ∧((((jcY p0 y1)=true) →((jcY p0 y1)=(jcY p0 y1))) ∧((((jcY p0 y1)=true) →((jcY p0 y1)=(jcY p0 y1))) ∧((((jcY p0 y1)=true) →((jcY p0 y1)=(jcY p0 y1))) ∧(((jcY p0 y1)=(jcY p0 y1)) ∧((((jcZ p0 y1)=true) →((jcZ p0 y1)=(jcZ p0 y1))) ∧((((jcZ p0 y1)=true) →((jcZ p0 y1)=(jcZ p0 y1))) ∧((((jcZ p0 y1)=true) →((jcZ p0 y1)=(jcZ p0 y1))) ∧(((jcZ p0 y1)=(jcZ p0 y1)) ∧((((jdG p0 y1)=true) →((jdG p0 y1)=(jdG p0 y1))) ∧((((jdG p0 y1)=true) →((jdG p0 y1)=(jdG p0 y1))) ∧(((jdG p0 y1)=(jdG p0 y1)) ∧((jbA (jio p0 y1)) ∧(((((jaG (jio p0 y1)) != zz0)=true) →(K (y1.1,(jaG (jio p0 y1))))) ∧((((jaG (jio p0 y1)) != zz0)=false) →(k2 ((wi (y1.1 + zz1)),(jeX p0 y1).1))))))))))))))))))))))) ∧(((decide (y1.1 < (p0.length:Int)))=false) →(K (zz0,zz0))))) n0 (zz0,(-1:Int)))))))
theorem jzt (p0:tQF) (K:tQG→Prop):tfn F_Z4 A_Z4 C_Z4 P_Z4 R_Z4 p0 K = w_Z4 p0 K := by kernel_rfl
def jec (p0:tQF) (y1:gG):tQG ⊕ tQG := (cond (decide (y1.1 < (p0.length:Int))) (cond ((jaG ((s_Zl (cond (cond (cond (cond (s_Z8 (p0.getD y1.1.toNat ((0:Int),((0:Int),((0:Int),(0,0))))).1 (0:Int) (1000000000000:Int)) (s_Z8 (p0.getD y1.1.toNat ((0:Int),((0:Int),((0:Int),(0,0))))).2.1 (-10:Int) (10:Int)) false) (s_Z8 (p0.getD y1.1.toNat ((0:Int),((0:Int),((0:Int),(0,0))))).2.2.1 (-10:Int) (10:Int)) false) (s_Z8 (p0.getD y1.1.toNat ((0:Int),((0:Int),((0:Int),(0,0))))).2.2.2.1 (-10:Int) (10:Int)) false) (s_Z8 (p0.getD y1.1.toNat ((0:Int),((0:Int),((0:Int),(0,0))))).2.2.2.2 (-100000:Int) (100000:Int)) false) (2:Int)) :: ((s_Zl (decide ((p0.getD y1.1.toNat ((0:Int),((0:Int),((0:Int),(0,0))))).1 > y1.2)) (9:Int)) :: ([]:List Int)))) != 0) (Sum.inr (y1.1,(jaG ((s_Zl (cond (cond (cond (cond (s_Z8 (p0.getD y1.1.toNat ((0:Int),((0:Int),((0:Int),(0,0))))).1 (0:Int) (1000000000000:Int)) (s_Z8 (p0.getD y1.1.toNat ((0:Int),((0:Int),((0:Int),(0,0))))).2.1 (-10:Int) (10:Int)) false) (s_Z8 (p0.getD y1.1.toNat ((0:Int),((0:Int),((0:Int),(0,0))))).2.2.1 (-10:Int) (10:Int)) false) (s_Z8 (p0.getD y1.1.toNat ((0:Int),((0:Int),((0:Int),(0,0))))).2.2.2.1 (-10:Int) (10:Int)) false) (s_Z8 (p0.getD y1.1.toNat ((0:Int),((0:Int),((0:Int),(0,0))))).2.2.2.2 (-100000:Int) (100000:Int)) false) (2:Int)) :: ((s_Zl (decide ((p0.getD y1.1.toNat ((0:Int),((0:Int),((0:Int),(0,0))))).1 > y1.2)) (9:Int)) :: ([]:List Int)))))) (Sum.inl ((IntKind.i64.wrap (y1.1 + 1)),(p0.getD y1.1.toNat ((0:Int),((0:Int),((0:Int),(0,0))))).1))) (Sum.inr (0,0)))
abbrev jgz (p0:tQF) (y1:gG):List Prop := [(((decide (y1.1 < (p0.length:Int)))=true)→((0:Int)≤y1.1)),(((decide (y1.1 < (p0.length:Int)))=true)→(y1.1 < (p0.length:Int)))]
def s_Z4 (p0:tQF):tQG := (cond ((jaG ((s_Zl (decide ((p0.length:Int) > 0)) (10:Int)) :: ((s_Zl (decide ((p0.length:Int)≤20)) (8:Int)) :: ([]:List Int)))) != 0) ((0:Int),(jaG ((s_Zl (decide ((p0.length:Int) > 0)) (10:Int)) :: ((s_Zl (decide ((p0.length:Int)≤20)) (8:Int)) :: ([]:List Int))))) (lpv (0,0) (jec p0) ((0:Int),(-1:Int))))
abbrev jlq (p0:tQF):List Prop := [((((jaG ((s_Zl (decide ((p0.length:Int) > 0)) (10:Int)) :: ((s_Zl (decide ((p0.length:Int)≤20)) (8:Int)) :: ([]:List Int)))) != 0)=false)→(OkL (jec p0) (jgz p0) ((0:Int),(-1:Int))))]
theorem d_Z4 (p0:tQF) (K:tQG→Prop) (hp:∀ p∈jlq p0,p) (h:K (s_Z4 p0)):w_Z4 p0 K := by
 unfold w_Z4
 unfold s_Z4 at h
 obtain ⟨hp0,_⟩ := jah hp
 exact ⟨(jf5 2 rfl (by decide)),(br' h (fun e0 h => h)
  (fun e0 h => (ja5 (hp0 e0) h (fun y1 k1 hp h => by
 unfold jec at h; obtain ⟨hp0,hp1,_⟩ := jah hp
 exact (br' h (fun e2 h => ⟨(hp0 e2),(hp1 e2),rf,rf,rf,rfl,rf,rf,rf,rfl,rf,rf,rf,rfl,rf,rf,rfl,(jf5 2 rfl (by decide)),(br' h (fun e3 h => h)
  (fun e3 h => h))⟩)
  (fun e2 h => h))))))⟩
theorem jzu {x y:Int} (h:(jaG [x,y] != 0)=false):x = 0∧y = 0 := by
 obtain ⟨h1,h2⟩ := jfi (jf7 h)
 exact ⟨h1,(jfi h2).1⟩
theorem jq5 {n:Int} (h:0≤n):jaG [s_Zl (decide (n > 0)) 10,s_Zl (decide (n≤20)) 8]=cond (n == 0) 10 (cond (decide (n > 20)) 8 0) := by
 unfold s_Zl
 rcases int0 n with ⟨h0,_,e0⟩ | ⟨h0,_,e0⟩
 ·subst h0; rfl
 ·rw [e0,decide_eq_true (show n > 0 by omega)]
  rcases dec0 (a := 20) (b := n) with ⟨_,_,_,e1,e2⟩ | ⟨_,_,_,e1,e2⟩ <;> rw [e1,e2] <;> rfl
theorem jzv {p0:List tQB} (h:(jaG [s_Zl (decide ((p0.length:Int) > 0)) 10,s_Zl (decide ((p0.length:Int)≤20)) 8] != 0)=false):p0.length≤20 := by
 rw [jq5 (by omega)] at h
 cases c:decide ((p0.length:Int) > 20)
 ·have := of_decide_eq_false c; omega
 ·rw [c] at h
  cases c2:((p0.length:Int) == 0) <;> rw [c2] at h <;> cases h
theorem jzw {x:Int×Int×Int×Int×Int}:cond (cond (cond (cond (s_Z8 x.1 0 1000000000000) (s_Z8 x.2.1 (-10) 10) false) (s_Z8 x.2.2.1 (-10) 10) false) (s_Z8 x.2.2.2.1 (-10) 10) false) (s_Z8 x.2.2.2.2 (-100000) 100000) false = jcG x := by
 rw [jfI,jfI,jfI,jfI,jfI]
 unfold jcG
 cases s_Z5 x.1 0 1000000000000 <;> cases s_Z5 x.2.1 (-10) 10 <;> cases s_Z5 x.2.2.1 (-10) 10 <;> cases s_Z5 x.2.2.2.1 (-10) 10 <;> rfl
theorem jzx {x:Int×Int×Int×Int×Int} (h:jcG x = true):0≤x.1 := by
 unfold jcG at h
 cases c:s_Z5 x.1 0 1000000000000
 ·rw [c] at h; cases h
 ·exact (jbS.1 c).1
theorem jq6 (p0:List tQB) (hl:p0.length≤20):OkL (jec p0) (jgz p0) (0,-1)∧lpv ((0,0):Int×Int) (jec p0) (0,-1)=jaZ (jbZ p0) ((0,0):Int×Int) 0 p0 := by
 refine @jbN Int tQG tQG (0,0) (jec p0) (jgz p0) (fun i t => (i,t)) 0 p0.length (fun j t => t = if j = 0 then -1 else (p0.getD (j - 1) (0,0,0,0,0)).1) (fun j _ => jaZ (jbZ p0) ((0,0):Int×Int) (j:Int) (p0.drop j)) (by omega) (by omega) ?_ ?_ (-1) rfl
 ·intro t _
  rw [List.drop_length]
  simp only [jgz,jec,fM,show decide ((p0.length:Int) < (p0.length:Int))=false from decide_eq_false (by omega),cond_false]
  refine ⟨?_,rfl⟩
  and_intros
  all_goals first
   | (intro h; cases h; done)
   | (intro p hp; cases hp)
 ·intro j t _ hj ht
  have hd1:decide ((j:Int) < (p0.length:Int))=true := decide_eq_true (by omega)
  have hw1:IntKind.i64.wrap ((j:Int) + 1)=((j + 1:Nat):Int) := jar (by omega) (by omega)
  rw [jdz (0,0,0,0,0) hj]
  have e:jaZ (jbZ p0) ((0,0):Int×Int) (j:Int) (p0.getD j (0,0,0,0,0) :: p0.drop (j + 1))=match jbZ p0 (j:Int) (p0.getD j (0,0,0,0,0)) with | none => jaZ (jbZ p0) ((0,0):Int×Int) ((j:Int) + 1) (p0.drop (j + 1)) | some v => v := by simp only [jaZ]; cases jbZ p0 (j:Int) (p0.getD j (0,0,0,0,0)) <;> rfl
  rw [e,show (j:Int) + 1 = ((j + 1:Nat):Int) by omega]
  simp only [jgz,jec,fM,hd1,cond_true,hw1,Int.toNat_natCast,jzw]
  refine ⟨?_,?_⟩
  ·and_intros
   all_goals first
    | (intro p hp; cases hp; done)
    | (intros; omega)
  ·unfold jbZ
   cases hv:jcG (p0.getD j (0,0,0,0,0))
   ·exact .inr rfl
   ·have h0 := jzx hv
    rcases Nat.eq_zero_or_pos j with rfl | hp
    ·rw [if_pos rfl] at ht
     rw [ht,decide_eq_true (show (p0.getD 0 (0,0,0,0,0)).1 > -1 by omega)]
     exact .inl ⟨_,rfl,by simp,rfl⟩
    ·rw [if_neg (by omega)] at ht
     rw [show ((j:Int) == 0)=false from beq_eq_false_iff_ne.2 (by omega),show ((j:Int) - 1).toNat = j - 1 by omega,ht]
     cases decide ((p0.getD j (0,0,0,0,0)).1 > (p0.getD (j - 1) (0,0,0,0,0)).1)
     ·exact .inr rfl
     ·exact .inl ⟨_,rfl,by simp,rfl⟩
abbrev t_Z4 (p0:List tQB):Int×Int := v_cs p0
abbrev jlr (_p0:List tQB):List Prop := []
theorem jzy (p0:List tQB) (_hq:∀ p∈jlr p0,p):∀ p∈jlq p0,p := by
 simp only [jlq,fM]
 refine ⟨fun h => ?_,by simp⟩
 exact (jq6 p0 (jzv h)).1
theorem jzz (p0:List tQB) (_hq:∀ p∈jlr p0,p):s_Z4 p0 = t_Z4 p0 := by
 unfold s_Z4 t_Z4 v_cs
 rw [jq5 (by omega)]
 cases h:decide ((p0.length:Int) > 20)
 ·rw [(jq6 p0 (by have := of_decide_eq_false h; omega)).2]
  cases ((p0.length:Int) == 0) <;> rfl
 ·cases ((p0.length:Int) == 0) <;> rfl
/-- Valid samples. -/
structure v_sok1 (q:Int×Int×Int×Int×Int):Prop where
 t:0≤q.1∧q.1≤1000000000000
 x : -10≤q.2.1∧q.2.1≤10
 y : -10≤q.2.2.1∧q.2.2.1≤10
 z : -10≤q.2.2.2.1∧q.2.2.2.1≤10
 v : -100000≤q.2.2.2.2∧q.2.2.2.2≤100000
structure v_smp (l:List tQB):Prop where
 ne:l ≠ []
 len:l.length≤20
 ok:∀ x∈l,v_sok1 x
 asc:∀ k,0 < k→k < l.length→(l.getD (k - 1) (0,0,0,0,0)).1 < (l.getD k (0,0,0,0,0)).1
theorem jq7 {x:Int×Int×Int×Int×Int}:jcG x = true ↔ v_sok1 x := by
 unfold jcG
 constructor
 ·intro h
  cases c1:s_Z5 x.1 0 1000000000000 <;> cases c2:s_Z5 x.2.1 (-10) 10 <;> cases c3:s_Z5 x.2.2.1 (-10) 10 <;> cases c4:s_Z5 x.2.2.2.1 (-10) 10 <;> cases c5:s_Z5 x.2.2.2.2 (-100000) 100000 <;> rw [c1,c2,c3,c4,c5] at h <;> try (cases h; done)
  exact ⟨jbS.1 c1,jbS.1 c2,jbS.1 c3,jbS.1 c4,jbS.1 c5⟩
 ·rintro ⟨h1,h2,h3,h4,h5⟩
  rw [jbS.2 h1,jbS.2 h2,jbS.2 h3,jbS.2 h4,jbS.2 h5]; rfl
theorem jq8 {l:List tQB} {k:Nat} {x:Int×Int×Int×Int×Int}:jbZ l (k:Int) x = none ↔ v_sok1 x∧(0 < k→(l.getD (k - 1) (0,0,0,0,0)).1 < x.1) := by
 unfold jbZ
 have hk:((k:Int) - 1).toNat = k - 1 := by omega
 rw [hk]
 cases hv:jcG x
 ·simp only [cond_false,reduceCtorEq,false_iff]
  rintro ⟨h,_⟩
  rw [jq7.2 h] at hv; cases hv
 ·have hs := jq7.1 hv
  rcases int0 (k:Int) with ⟨h0,_,e⟩ | ⟨h0,_,e⟩ <;> rw [e]
  ·simp only [cond_true,true_iff]
   exact ⟨hs,fun h => by omega⟩
  ·simp only [cond_true,cond_false]
   cases c:decide (x.1 > (l.getD (k - 1) (0,0,0,0,0)).1)
   ·have := of_decide_eq_false c
    simp only [cond_false,reduceCtorEq,false_iff]
    rintro ⟨_,h⟩
    have := h (by omega)
    omega
   ·have := of_decide_eq_true c
    simp only [cond_true,true_iff]
    exact ⟨hs,fun _ => this⟩
theorem jed {l:List tQB}:(v_cs l).2 = 0 ↔ v_smp l := by
 constructor
 ·intro h
  unfold v_cs at h
  rcases int0 (l.length:Int) with ⟨_,_,e0⟩ | ⟨h0,_,e0⟩
  ·rw [e0] at h; cases h
  rw [e0] at h
  rcases dec0 (a := 20) (b := (l.length:Int)) with ⟨_,_,_,_,e1⟩ | ⟨h1,_,_,_,e1⟩
  ·rw [e1] at h; cases h
  rw [e1] at h
  simp only [cond_false] at h
  have key := juc (f := jbZ l) (e := ((0,0):Int×Int)) (P := fun (r:gG) => r.2 = 0) l 0 h (fun j x v _ hv hv0 => by
   unfold jbZ at hv
   cases c1:jcG x <;> rw [c1] at hv
   ·simp only [cond_false,sJ] at hv; subst hv; cases hv0
   ·cases c2:cond (j == 0) true (decide (x.1 > (l.getD (j - 1).toNat (0,0,0,0,0)).1)) <;> rw [c2] at hv
    ·simp only [cond_true,cond_false,sJ] at hv; subst hv; cases hv0
    ·cases hv)
  have key2:∀ k,(hk:k < l.length)→v_sok1 (l.getD k (0,0,0,0,0))∧(0 < k→(l.getD (k - 1) (0,0,0,0,0)).1 < (l.getD k (0,0,0,0,0)).1) := fun k hk => by
   have := key k hk
   rw [Int.zero_add] at this
   rw [jf8 (0,0,0,0,0) hk]
   exact jq8.1 this
  refine ⟨by rintro rfl; exact h0 rfl,by omega,fun x hx => ?_,fun k h0 hk => (key2 k hk).2 h0⟩
  obtain ⟨k,hk,rfl⟩ := List.getElem_of_mem hx
  rw [← jf8 (0,0,0,0,0) hk]
  exact (key2 k hk).1
 ·intro h
  have h0:0 < l.length := List.length_pos_iff.2 h.ne
  have hl := h.len
  unfold v_cs
  rw [show ((l.length:Int) == 0)=false from beq_eq_false_iff_ne.2 (by omega),decide_eq_false (show ¬ (l.length:Int) > 20 by omega)]
  simp only [cond_false]
  have key:∀ (r:List tQB) (k:Nat),l.drop k = r→jaZ (jbZ l) ((0,0):Int×Int) (k:Int) r = (0,0) := by
   intro r
   induction r with
   | nil => intro k _; rfl
   | cons x r ih =>
    intro k e
    have hk:k < l.length := by
     rcases Nat.lt_or_ge k l.length with g | g
     ·exact g
     ·rw [List.drop_eq_nil_of_le g] at e; cases e
    rw [jdz (0,0,0,0,0) hk] at e
    simp only [List.cons.injEq] at e
    obtain ⟨e1,e2⟩ := e
    unfold jaZ
    rw [jq8.2 ⟨e1 ▸ h.ok _ (jbF _ hk),fun h0 => e1 ▸ h.asc k h0 hk⟩]
    have := ih (k + 1) e2
    rw [Int.natCast_add] at this
    exact this
  rw [show jaZ (jbZ l) ((0,0):Int×Int) 0 l = (0,0) from key l 0 rfl]

abbrev jq9:Con := ⟨P_Z4,R_Z4,fun x => jlr x,fun x => t_Z4 x⟩
theorem jzA:jau Try.prog 57 jq9 := okG k_Z4 e_Z4 jzs fun x hx => jaA (jzt x _) (d_Z4 x _ (jzy x hx) (jzz x hx))
def C_Zk:Cons := []
theorem jzB:jag Try.prog C_Zk := jag.nil
abbrev jdH (p0:tQF) (p1:Int) := (p0.getD p1.toNat (zz0,(zz0,(zz0,(zz0,zz0)))))
def w_Zk (p0:tQF) (p1:Int) (K:tQJ→Prop):Prop := ((zz0≤p1) ∧((p1 < (p0.length:Int)) ∧((zz0≤(max zz0 (wi (p1 - zz1)))) ∧(((max zz0 (wi (p1 - zz1))) < (p0.length:Int)) ∧(K (zz1,((jdH p0 p1).2.1,((jdH p0 p1).2.2.1,((jdH p0 p1).2.2.2.1,((wi ((jdH p0 p1).2.1 * (jdH p0 p1).2.1)),((wi ((jdH p0 p1).2.1 * (jdH p0 p1).2.2.1)),((wi ((jdH p0 p1).2.1 - (p0.getD (Int.toNat (max zz0 (wi (p1 - zz1)))) (zz0,(zz0,(zz0,(zz0,zz0))))).2.1)),(wi ((jdH p0 p1).2.2.1 - (p0.getD (Int.toNat (max zz0 (wi (p1 - zz1)))) (zz0,(zz0,(zz0,(zz0,zz0))))).2.2.1))))))))))))))
theorem jzC (p0:tQF) (p1:Int) (K:tQJ→Prop):tfn F_Zk A_Zk C_Zk P_Zk R_Zk (p0,p1) K = w_Zk p0 p1 K := by kernel_rfl
def s_Zk (p0:tQF) (p1:Int):tQJ := ((1:Int),((p0.getD p1.toNat ((0:Int),((0:Int),((0:Int),(0,0))))).2.1,((p0.getD p1.toNat ((0:Int),((0:Int),((0:Int),(0,0))))).2.2.1,((p0.getD p1.toNat ((0:Int),((0:Int),((0:Int),(0,0))))).2.2.2.1,((IntKind.i64.wrap ((p0.getD p1.toNat ((0:Int),((0:Int),((0:Int),(0,0))))).2.1 * (p0.getD p1.toNat ((0:Int),((0:Int),((0:Int),(0,0))))).2.1)),((IntKind.i64.wrap ((p0.getD p1.toNat ((0:Int),((0:Int),((0:Int),(0,0))))).2.1 * (p0.getD p1.toNat ((0:Int),((0:Int),((0:Int),(0,0))))).2.2.1)),((IntKind.i64.wrap ((p0.getD p1.toNat ((0:Int),((0:Int),((0:Int),(0,0))))).2.1 - (p0.getD (Int.toNat (max (0:Int) (IntKind.i64.wrap (p1 - 1)))) ((0:Int),((0:Int),((0:Int),(0,0))))).2.1)),(IntKind.i64.wrap ((p0.getD p1.toNat ((0:Int),((0:Int),((0:Int),(0,0))))).2.2.1 - (p0.getD (Int.toNat (max (0:Int) (IntKind.i64.wrap (p1 - 1)))) ((0:Int),((0:Int),((0:Int),(0,0))))).2.2.1)))))))))
abbrev jls (p0:tQF) (p1:Int):List Prop := [((0:Int)≤p1),(p1 < (p0.length:Int)),((0:Int)≤(max (0:Int) (IntKind.i64.wrap (p1 - 1)))),((max (0:Int) (IntKind.i64.wrap (p1 - 1))) < (p0.length:Int))]
theorem d_Zk (p0:tQF) (p1:Int) (K:tQJ→Prop) (hp:∀ p∈jls p0 p1,p) (h:K (s_Zk p0 p1)):w_Zk p0 p1 K := by
 unfold w_Zk
 unfold s_Zk at h
 obtain ⟨hp0,hp1,hp2,hp3,_⟩ := jah hp
 exact ⟨(hp0),(hp1),(hp2),(hp3),h⟩
/-- The terms of a sample. -/
def jae (l:List tQB) (i:Nat):Int×Int×Int×Int×Int×Int×Int×Int := (1,(l.getD i (0,0,0,0,0)).2.1,(l.getD i (0,0,0,0,0)).2.2.1,(l.getD i (0,0,0,0,0)).2.2.2.1,(l.getD i (0,0,0,0,0)).2.1 * (l.getD i (0,0,0,0,0)).2.1,(l.getD i (0,0,0,0,0)).2.1 * (l.getD i (0,0,0,0,0)).2.2.1,
 (l.getD i (0,0,0,0,0)).2.1 - (l.getD (i - 1) (0,0,0,0,0)).2.1,(l.getD i (0,0,0,0,0)).2.2.1 - (l.getD (i - 1) (0,0,0,0,0)).2.2.1)
theorem jfJ {x y:Int} (hx : -10≤x∧x≤10) (hy : -10≤y∧y≤10) : -100≤x * y∧x * y≤100 := by
 have h1 := jbn (x := x) (y := y) (a := 10) (b := 10) hx.1 hx.2 hy.1 hy.2
 omega
theorem jra {l:List tQB} (h:v_smp l) {i:Nat} (hi:i < l.length):IntKind.i64.wrap ((l.getD i (0,0,0,0,0)).2.1 * (l.getD i (0,0,0,0,0)).2.1)=(l.getD i (0,0,0,0,0)).2.1 * (l.getD i (0,0,0,0,0)).2.1∧IntKind.i64.wrap ((l.getD i (0,0,0,0,0)).2.1 * (l.getD i (0,0,0,0,0)).2.2.1)=(l.getD i (0,0,0,0,0)).2.1 * (l.getD i (0,0,0,0,0)).2.2.1 ∧
  IntKind.i64.wrap ((l.getD i (0,0,0,0,0)).2.1 - (l.getD (i - 1) (0,0,0,0,0)).2.1)=(l.getD i (0,0,0,0,0)).2.1 - (l.getD (i - 1) (0,0,0,0,0)).2.1∧IntKind.i64.wrap ((l.getD i (0,0,0,0,0)).2.2.1 - (l.getD (i - 1) (0,0,0,0,0)).2.2.1)=(l.getD i (0,0,0,0,0)).2.2.1 - (l.getD (i - 1) (0,0,0,0,0)).2.2.1 := by
 have a := h.ok _ (jbF (0,0,0,0,0) hi)
 have b := h.ok _ (jbF (0,0,0,0,0) (show i - 1 < l.length by omega))
 have ax := a.x
 have ay := a.y
 have bx := b.x
 have bY := b.y
 have m1 := jfJ ax ax
 have m2 := jfJ ax ay
 exact ⟨jar (by omega) (by omega),jar (by omega) (by omega),jar (by omega) (by omega),jar (by omega) (by omega)⟩
abbrev t_Zk (p0:List tQB) (p1:Int):Int×Int×Int×Int×Int×Int×Int×Int := jae p0 p1.toNat
abbrev jlt (p0:List tQB) (p1:Int):List Prop := [v_smp p0,0≤p1,p1 < p0.length]
theorem jzD (p0:List tQB) (p1:Int) (hq:∀ p∈jlt p0 p1,p):∀ p∈jls p0 p1,p := by
 obtain ⟨h1,h2,h3,_⟩ := jah hq
 have hl := h1.len
 have hw:IntKind.i64.wrap (p1 - 1)=p1 - 1 := jar (by omega) (by omega)
 simp only [jls,fM,hw]
 and_intros
 all_goals first | omega | (intro p hp; cases hp)
theorem jzE (p0:List tQB) (p1:Int) (hq:∀ p∈jlt p0 p1,p):s_Zk p0 p1 = t_Zk p0 p1 := by
 obtain ⟨h1,h2,h3,_⟩ := jah hq
 have hl := h1.len
 have hw:IntKind.i64.wrap (p1 - 1)=p1 - 1 := jar (by omega) (by omega)
 obtain ⟨w1,w2,w3,w4⟩ := jra h1 (show p1.toNat < p0.length by omega)
 unfold s_Zk t_Zk jae
 rw [hw,show (max 0 (p1 - 1)).toNat = p1.toNat - 1 by omega,w1,w2,w3,w4]

abbrev jiq:Con := ⟨P_Zk,R_Zk,fun x => jlt x.1 x.2,fun x => t_Zk x.1 x.2⟩
theorem jlu:jau Try.prog 39 jiq := okG k_Zk e_Zk jzB fun x hx => jaA (jzC x.1 x.2 _) (d_Zk x.1 x.2 _ (jzD x.1 x.2 hx) (jzE x.1 x.2 hx))
def C_Z3:Cons := [(39,[],jiq)]
theorem jzF:jag Try.prog C_Z3 := cC jlu <| jag.nil
abbrev jb7 (p0:tQF) (p1:gF) (y4:tQL) (y7:tQL) (y10:(Int×tQE)) := ((List.getD ((jae p0 y7.1.toNat).1 :: ((jae p0 y7.1.toNat).2.1 :: ((jae p0 y7.1.toNat).2.2.1 :: ((jae p0 y7.1.toNat).2.2.2.1 :: ((jae p0 y7.1.toNat).2.2.2.2.1 :: ((jae p0 y7.1.toNat).2.2.2.2.2.1 :: ((jae p0 y7.1.toNat).2.2.2.2.2.2.1 :: ((jae p0 y7.1.toNat).2.2.2.2.2.2.2 :: ([]:List Int))))))))) (Int.toNat (p1.getD y4.1.toNat zz0)) zz0) * (List.getD ((jae p0 y7.1.toNat).1 :: ((jae p0 y7.1.toNat).2.1 :: ((jae p0 y7.1.toNat).2.2.1 :: ((jae p0 y7.1.toNat).2.2.2.1 :: ((jae p0 y7.1.toNat).2.2.2.2.1 :: ((jae p0 y7.1.toNat).2.2.2.2.2.1 :: ((jae p0 y7.1.toNat).2.2.2.2.2.2.1 :: ((jae p0 y7.1.toNat).2.2.2.2.2.2.2 :: ([]:List Int))))))))) (Int.toNat (p1.getD y10.1.toNat zz0)) zz0))
abbrev jb8 (y4:tQL) (y10:(Int×tQE)) := (List.getD ((List.getD (y10.2.1 :: (y10.2.2.2.2.2.1 :: (y10.2.2.2.2.2.2.2.2.2.1 :: (y10.2.2.2.2.2.2.2.2.2.2.2.2.2.1 :: ([]:List Int))))) y4.1.toNat zz0) :: ((List.getD (y10.2.2.1 :: (y10.2.2.2.2.2.2.1 :: (y10.2.2.2.2.2.2.2.2.2.2.1 :: (y10.2.2.2.2.2.2.2.2.2.2.2.2.2.2.1 :: ([]:List Int))))) y4.1.toNat zz0) :: ((List.getD (y10.2.2.2.1 :: (y10.2.2.2.2.2.2.2.1 :: (y10.2.2.2.2.2.2.2.2.2.2.2.1 :: (y10.2.2.2.2.2.2.2.2.2.2.2.2.2.2.2.1 :: ([]:List Int))))) y4.1.toNat zz0) :: ((List.getD (y10.2.2.2.2.1 :: (y10.2.2.2.2.2.2.2.2.1 :: (y10.2.2.2.2.2.2.2.2.2.2.2.2.1 :: (y10.2.2.2.2.2.2.2.2.2.2.2.2.2.2.2.2 :: ([]:List Int))))) y4.1.toNat zz0) :: ([]:List Int))))) y10.1.toNat zz0)
abbrev jir (p0:tQF) (p1:gF) (y4:tQL) (y7:tQL) := ((List.getD ((jae p0 y7.1.toNat).1 :: ((jae p0 y7.1.toNat).2.1 :: ((jae p0 y7.1.toNat).2.2.1 :: ((jae p0 y7.1.toNat).2.2.2.1 :: ((jae p0 y7.1.toNat).2.2.2.2.1 :: ((jae p0 y7.1.toNat).2.2.2.2.2.1 :: ((jae p0 y7.1.toNat).2.2.2.2.2.2.1 :: ((jae p0 y7.1.toNat).2.2.2.2.2.2.2 :: ([]:List Int))))))))) (Int.toNat (p1.getD y4.1.toNat zz0)) zz0) * (p0.getD y7.1.toNat (zz0,(zz0,(zz0,(zz0,zz0))))).2.2.2.2)
abbrev jis := tQE
abbrev jit (y4:tQL) (y7:tQL) := (List.getD (y7.2.2.1 :: (y7.2.2.2.1 :: (y7.2.2.2.2.1 :: (y7.2.2.2.2.2 :: ([]:List Int))))) y4.1.toNat zz0)
def w_Z3 (p0:tQF) (p1:gF) (K:(tQK×tQD)→Prop):Prop := (∃ n0,(jaX (fun (y1:(Int×(jis))) k2 => ((((decide (y1.1 < 4))=true) →((zz0≤y1.1) ∧((y1.1 < 4) ∧((zz0≤y1.1) ∧((y1.1 < 4) ∧(k2 ((wi (y1.1 + zz1)),((cond ((decide (y1.1 = zz0)) && (decide (y1.1 = zz0))) zz1 y1.2.1),((cond ((decide (y1.1 = zz1)) && (decide (y1.1 = zz0))) zz1 y1.2.2.1),((cond ((decide (y1.1 = zz2)) && (decide (y1.1 = zz0))) zz1 y1.2.2.2.1),((cond ((decide (y1.1 = zz3)) && (decide (y1.1 = zz0))) zz1 y1.2.2.2.2.1),((cond ((decide (y1.1 = zz0)) && (decide (y1.1 = zz1))) zz1 y1.2.2.2.2.2.1),((cond ((decide (y1.1 = zz1)) && (decide (y1.1 = zz1))) zz1 y1.2.2.2.2.2.2.1),((cond ((decide (y1.1 = zz2)) && (decide (y1.1 = zz1))) zz1 y1.2.2.2.2.2.2.2.1),((cond ((decide (y1.1 = zz3)) && (decide (y1.1 = zz1))) zz1 y1.2.2.2.2.2.2.2.2.1),((cond ((decide (y1.1 = zz0)) && (decide (y1.1 = zz2))) zz1 y1.2.2.2.2.2.2.2.2.2.1),((cond ((decide (y1.1 = zz1)) && (decide (y1.1 = zz2))) zz1 y1.2.2.2.2.2.2.2.2.2.2.1),((cond ((decide (y1.1 = zz2)) && (decide (y1.1 = zz2))) zz1 y1.2.2.2.2.2.2.2.2.2.2.2.1),((cond ((decide (y1.1 = zz3)) && (decide (y1.1 = zz2))) zz1 y1.2.2.2.2.2.2.2.2.2.2.2.2.1),((cond ((decide (y1.1 = zz0)) && (decide (y1.1 = zz3))) zz1 y1.2.2.2.2.2.2.2.2.2.2.2.2.2.1),((cond ((decide (y1.1 = zz1)) && (decide (y1.1 = zz3))) zz1 y1.2.2.2.2.2.2.2.2.2.2.2.2.2.2.1),((cond ((decide (y1.1 = zz2)) && (decide (y1.1 = zz3))) zz1 y1.2.2.2.2.2.2.2.2.2.2.2.2.2.2.2.1),(cond ((decide (y1.1 = zz3)) && (decide (y1.1 = zz3))) zz1 y1.2.2.2.2.2.2.2.2.2.2.2.2.2.2.2.2))))))))))))))))))))))) ∧(((decide (y1.1 < 4))=false) →(∃ n3,(jaX (fun (y4:(Int×((jis)×tQD))) k5 => ((((decide (y4.1 < (p1.length:Int)))=true) →((zz0≤y4.1) ∧((y4.1 < (p1.length:Int)) ∧((zz0≤y4.1) ∧((y4.1 < 4) ∧((zz0≤y4.1) ∧((y4.1 < 4) ∧(∃ n6,(jaX (fun (y7:(Int×((jis)×tQD))) k8 => ((((decide (y7.1 < (p0.length:Int)))=true) →((v_smp p0) ∧((zz0≤y7.1) ∧((y7.1 < (p0.length:Int)) ∧((zz0≤y4.1) ∧((y4.1 < 4) ∧((zz0≤(p1.getD y4.1.toNat zz0)) ∧(((p1.getD y4.1.toNat zz0) < 8) ∧((zz0≤y7.1) ∧((y7.1 < (p0.length:Int)) ∧((zz0≤y4.1) ∧((y4.1 < 4) ∧(∃ n9,(jaX (fun (y10:(Int×(jis))) k11 => ((((decide (y10.1 < (p1.length:Int)))=true) →((zz0≤y10.1) ∧((y10.1 < (p1.length:Int)) ∧((zz0≤y4.1) ∧((y4.1 < 4) ∧((zz0≤y10.1) ∧((y10.1 < 4) ∧((zz0≤(p1.getD y4.1.toNat zz0)) ∧(((p1.getD y4.1.toNat zz0) < 8) ∧((zz0≤(p1.getD y10.1.toNat zz0)) ∧(((p1.getD y10.1.toNat zz0) < 8) ∧((zz0≤y4.1) ∧((y4.1 < 4) ∧((zz0≤y10.1) ∧((y10.1 < 4) ∧(k11 ((wi (y10.1 + zz1)),((cond ((decide (y10.1 = zz0)) && (decide (y4.1 = zz0))) (wi ((jb8 y4 y10) + (wi (jb7 p0 p1 y4 y7 y10)))) y10.2.1),((cond ((decide (y10.1 = zz1)) && (decide (y4.1 = zz0))) (wi ((jb8 y4 y10) + (wi (jb7 p0 p1 y4 y7 y10)))) y10.2.2.1),((cond ((decide (y10.1 = zz2)) && (decide (y4.1 = zz0))) (wi ((jb8 y4 y10) + (wi (jb7 p0 p1 y4 y7 y10)))) y10.2.2.2.1),((cond ((decide (y10.1 = zz3)) && (decide (y4.1 = zz0))) (wi ((jb8 y4 y10) + (wi (jb7 p0 p1 y4 y7 y10)))) y10.2.2.2.2.1),((cond ((decide (y10.1 = zz0)) && (decide (y4.1 = zz1))) (wi ((jb8 y4 y10) + (wi (jb7 p0 p1 y4 y7 y10)))) y10.2.2.2.2.2.1),((cond ((decide (y10.1 = zz1)) && (decide (y4.1 = zz1))) (wi ((jb8 y4 y10) + (wi (jb7 p0 p1 y4 y7 y10)))) y10.2.2.2.2.2.2.1),((cond ((decide (y10.1 = zz2)) && (decide (y4.1 = zz1))) (wi ((jb8 y4 y10) + (wi (jb7 p0 p1 y4 y7 y10)))) y10.2.2.2.2.2.2.2.1),((cond ((decide (y10.1 = zz3)) && (decide (y4.1 = zz1))) (wi ((jb8 y4 y10) + (wi (jb7 p0 p1 y4 y7 y10)))) y10.2.2.2.2.2.2.2.2.1),((cond ((decide (y10.1 = zz0)) && (decide (y4.1 = zz2))) (wi ((jb8 y4 y10) + (wi (jb7 p0 p1 y4 y7 y10)))) y10.2.2.2.2.2.2.2.2.2.1),((cond ((decide (y10.1 = zz1)) && (decide (y4.1 = zz2))) (wi ((jb8 y4 y10) + (wi (jb7 p0 p1 y4 y7 y10)))) y10.2.2.2.2.2.2.2.2.2.2.1),((cond ((decide (y10.1 = zz2)) && (decide (y4.1 = zz2))) (wi ((jb8 y4 y10) + (wi (jb7 p0 p1 y4 y7 y10)))) y10.2.2.2.2.2.2.2.2.2.2.2.1),((cond ((decide (y10.1 = zz3)) && (decide (y4.1 = zz2))) (wi ((jb8 y4 y10) + (wi (jb7 p0 p1 y4 y7 y10)))) y10.2.2.2.2.2.2.2.2.2.2.2.2.1),((cond ((decide (y10.1 = zz0)) && (decide (y4.1 = zz3))) (wi ((jb8 y4 y10) + (wi (jb7 p0 p1 y4 y7 y10)))) y10.2.2.2.2.2.2.2.2.2.2.2.2.2.1),((cond ((decide (y10.1 = zz1)) && (decide (y4.1 = zz3))) (wi ((jb8 y4 y10) + (wi (jb7 p0 p1 y4 y7 y10)))) y10.2.2.2.2.2.2.2.2.2.2.2.2.2.2.1),((cond ((decide (y10.1 = zz2)) && (decide (y4.1 = zz3))) (wi ((jb8 y4 y10) + (wi (jb7 p0 p1 y4 y7 y10)))) y10.2.2.2.2.2.2.2.2.2.2.2.2.2.2.2.1),(cond ((decide (y10.1 = zz3)) && (decide (y4.1 = zz3))) (wi ((jb8 y4 y10) + (wi (jb7 p0 p1 y4 y7 y10)))) y10.2.2.2.2.2.2.2.2.2.2.2.2.2.2.2.2))))))))))))))))))))))))))))))))) ∧(((decide (y10.1 < (p1.length:Int)))=false) →(k8 ((wi (y7.1 + zz1)),(y10.2,((cond (decide (y4.1 = zz0)) (wi ((jit y4 y7) + (wi (jir p0 p1 y4 y7)))) y7.2.2.1),((cond (decide (y4.1 = zz1)) (wi ((jit y4 y7) + (wi (jir p0 p1 y4 y7)))) y7.2.2.2.1),((cond (decide (y4.1 = zz2)) (wi ((jit y4 y7) + (wi (jir p0 p1 y4 y7)))) y7.2.2.2.2.1),(cond (decide (y4.1 = zz3)) (wi ((jit y4 y7) + (wi (jir p0 p1 y4 y7)))) y7.2.2.2.2.2)))))))))) n9 (zz0,y7.2.1))))))))))))))) ∧(((decide (y7.1 < (p0.length:Int)))=false) →(k5 ((wi (y4.1 + zz1)),y7.2))))) n6 (zz0,(((cond ((decide (y4.1 = zz0)) && (decide (y4.1 = zz0))) zz0 y4.2.1.1),((cond ((decide (y4.1 = zz1)) && (decide (y4.1 = zz0))) zz0 y4.2.1.2.1),((cond ((decide (y4.1 = zz2)) && (decide (y4.1 = zz0))) zz0 y4.2.1.2.2.1),((cond ((decide (y4.1 = zz3)) && (decide (y4.1 = zz0))) zz0 y4.2.1.2.2.2.1),((cond ((decide (y4.1 = zz0)) && (decide (y4.1 = zz1))) zz0 y4.2.1.2.2.2.2.1),((cond ((decide (y4.1 = zz1)) && (decide (y4.1 = zz1))) zz0 y4.2.1.2.2.2.2.2.1),((cond ((decide (y4.1 = zz2)) && (decide (y4.1 = zz1))) zz0 y4.2.1.2.2.2.2.2.2.1),((cond ((decide (y4.1 = zz3)) && (decide (y4.1 = zz1))) zz0 y4.2.1.2.2.2.2.2.2.2.1),((cond ((decide (y4.1 = zz0)) && (decide (y4.1 = zz2))) zz0 y4.2.1.2.2.2.2.2.2.2.2.1),((cond ((decide (y4.1 = zz1)) && (decide (y4.1 = zz2))) zz0 y4.2.1.2.2.2.2.2.2.2.2.2.1),((cond ((decide (y4.1 = zz2)) && (decide (y4.1 = zz2))) zz0 y4.2.1.2.2.2.2.2.2.2.2.2.2.1),((cond ((decide (y4.1 = zz3)) && (decide (y4.1 = zz2))) zz0 y4.2.1.2.2.2.2.2.2.2.2.2.2.2.1),((cond ((decide (y4.1 = zz0)) && (decide (y4.1 = zz3))) zz0 y4.2.1.2.2.2.2.2.2.2.2.2.2.2.2.1),((cond ((decide (y4.1 = zz1)) && (decide (y4.1 = zz3))) zz0 y4.2.1.2.2.2.2.2.2.2.2.2.2.2.2.2.1),((cond ((decide (y4.1 = zz2)) && (decide (y4.1 = zz3))) zz0 y4.2.1.2.2.2.2.2.2.2.2.2.2.2.2.2.2.1),(cond ((decide (y4.1 = zz3)) && (decide (y4.1 = zz3))) zz0 y4.2.1.2.2.2.2.2.2.2.2.2.2.2.2.2.2.2)))))))))))))))),y4.2.2))))))))))) ∧(((decide (y4.1 < (p1.length:Int)))=false) →(K (((y4.2.1.1,(y4.2.1.2.1,(y4.2.1.2.2.1,y4.2.1.2.2.2.1))),((y4.2.1.2.2.2.2.1,(y4.2.1.2.2.2.2.2.1,(y4.2.1.2.2.2.2.2.2.1,y4.2.1.2.2.2.2.2.2.2.1))),((y4.2.1.2.2.2.2.2.2.2.2.1,(y4.2.1.2.2.2.2.2.2.2.2.2.1,(y4.2.1.2.2.2.2.2.2.2.2.2.2.1,y4.2.1.2.2.2.2.2.2.2.2.2.2.2.1))),y4.2.1.2.2.2.2.2.2.2.2.2.2.2.2))),y4.2.2))))) n3 (zz0,(y1.2,(zz0,(zz0,(zz0,zz0)))))))))) n0 (zz0,(zz0,(zz0,(zz0,(zz0,(zz0,(zz0,(zz0,(zz0,(zz0,(zz0,(zz0,(zz0,(zz0,(zz0,(zz0,zz0))))))))))))))))))
theorem jzG (p0:tQF) (p1:gF) (K:(tQK×tQD)→Prop):tfn F_Z3 A_Z3 C_Z3 P_Z3 R_Z3 (p0,p1) K = w_Z3 p0 p1 K := by kernel_rfl
abbrev jb9 (p0:tQF) (p1:gF) (y0:tQL) (y2:tQL) (y4:(Int×tQE)) := (IntKind.i64.wrap ((List.getD ((List.getD (y4.2.1 :: (y4.2.2.2.2.2.1 :: (y4.2.2.2.2.2.2.2.2.2.1 :: (y4.2.2.2.2.2.2.2.2.2.2.2.2.2.1 :: ([]:List Int))))) y0.1.toNat (0:Int)) :: ((List.getD (y4.2.2.1 :: (y4.2.2.2.2.2.2.1 :: (y4.2.2.2.2.2.2.2.2.2.2.1 :: (y4.2.2.2.2.2.2.2.2.2.2.2.2.2.2.1 :: ([]:List Int))))) y0.1.toNat (0:Int)) :: ((List.getD (y4.2.2.2.1 :: (y4.2.2.2.2.2.2.2.1 :: (y4.2.2.2.2.2.2.2.2.2.2.2.1 :: (y4.2.2.2.2.2.2.2.2.2.2.2.2.2.2.2.1 :: ([]:List Int))))) y0.1.toNat (0:Int)) :: ((List.getD (y4.2.2.2.2.1 :: (y4.2.2.2.2.2.2.2.2.1 :: (y4.2.2.2.2.2.2.2.2.2.2.2.2.1 :: (y4.2.2.2.2.2.2.2.2.2.2.2.2.2.2.2.2 :: ([]:List Int))))) y0.1.toNat (0:Int)) :: ([]:List Int))))) y4.1.toNat (0:Int)) + (IntKind.i64.wrap ((List.getD ((jae p0 y2.1.toNat).1 :: ((jae p0 y2.1.toNat).2.1 :: ((jae p0 y2.1.toNat).2.2.1 :: ((jae p0 y2.1.toNat).2.2.2.1 :: ((jae p0 y2.1.toNat).2.2.2.2.1 :: ((jae p0 y2.1.toNat).2.2.2.2.2.1 :: ((jae p0 y2.1.toNat).2.2.2.2.2.2.1 :: ((jae p0 y2.1.toNat).2.2.2.2.2.2.2 :: ([]:List Int))))))))) (Int.toNat (p1.getD y0.1.toNat (0:Int))) (0:Int)) * (List.getD ((jae p0 y2.1.toNat).1 :: ((jae p0 y2.1.toNat).2.1 :: ((jae p0 y2.1.toNat).2.2.1 :: ((jae p0 y2.1.toNat).2.2.2.1 :: ((jae p0 y2.1.toNat).2.2.2.2.1 :: ((jae p0 y2.1.toNat).2.2.2.2.2.1 :: ((jae p0 y2.1.toNat).2.2.2.2.2.2.1 :: ((jae p0 y2.1.toNat).2.2.2.2.2.2.2 :: ([]:List Int))))))))) (Int.toNat (p1.getD y4.1.toNat (0:Int))) (0:Int))))))
abbrev jiu (p0:tQF) (p1:gF) (y0:tQL) (y2:tQL) := (IntKind.i64.wrap ((List.getD (y2.2.2.1 :: (y2.2.2.2.1 :: (y2.2.2.2.2.1 :: (y2.2.2.2.2.2 :: ([]:List Int))))) y0.1.toNat (0:Int)) + (IntKind.i64.wrap ((List.getD ((jae p0 y2.1.toNat).1 :: ((jae p0 y2.1.toNat).2.1 :: ((jae p0 y2.1.toNat).2.2.1 :: ((jae p0 y2.1.toNat).2.2.2.1 :: ((jae p0 y2.1.toNat).2.2.2.2.1 :: ((jae p0 y2.1.toNat).2.2.2.2.2.1 :: ((jae p0 y2.1.toNat).2.2.2.2.2.2.1 :: ((jae p0 y2.1.toNat).2.2.2.2.2.2.2 :: ([]:List Int))))))))) (Int.toNat (p1.getD y0.1.toNat (0:Int))) (0:Int)) * (p0.getD y2.1.toNat ((0:Int),((0:Int),((0:Int),((0:Int),(0:Int)))))).2.2.2.2))))
def jdp (p0:tQF) (p1:gF) (y0:tQL) (y2:tQL) (y4:(Int×tQE)):(Int×tQE) ⊕ (tQL ⊕ (tQL ⊕ (tQK×tQD))) := (cond (decide (y4.1 < (p1.length:Int))) (Sum.inl ((IntKind.i64.wrap (y4.1 + 1)),((cond ((decide (y4.1 = (0:Int))) && (decide (y0.1 = (0:Int)))) (jb9 p0 p1 y0 y2 y4) y4.2.1),((cond ((decide (y4.1 = (1:Int))) && (decide (y0.1 = (0:Int)))) (jb9 p0 p1 y0 y2 y4) y4.2.2.1),((cond ((decide (y4.1 = (2:Int))) && (decide (y0.1 = (0:Int)))) (jb9 p0 p1 y0 y2 y4) y4.2.2.2.1),((cond ((decide (y4.1 = (3:Int))) && (decide (y0.1 = (0:Int)))) (jb9 p0 p1 y0 y2 y4) y4.2.2.2.2.1),((cond ((decide (y4.1 = (0:Int))) && (decide (y0.1 = (1:Int)))) (jb9 p0 p1 y0 y2 y4) y4.2.2.2.2.2.1),((cond ((decide (y4.1 = (1:Int))) && (decide (y0.1 = (1:Int)))) (jb9 p0 p1 y0 y2 y4) y4.2.2.2.2.2.2.1),((cond ((decide (y4.1 = (2:Int))) && (decide (y0.1 = (1:Int)))) (jb9 p0 p1 y0 y2 y4) y4.2.2.2.2.2.2.2.1),((cond ((decide (y4.1 = (3:Int))) && (decide (y0.1 = (1:Int)))) (jb9 p0 p1 y0 y2 y4) y4.2.2.2.2.2.2.2.2.1),((cond ((decide (y4.1 = (0:Int))) && (decide (y0.1 = (2:Int)))) (jb9 p0 p1 y0 y2 y4) y4.2.2.2.2.2.2.2.2.2.1),((cond ((decide (y4.1 = (1:Int))) && (decide (y0.1 = (2:Int)))) (jb9 p0 p1 y0 y2 y4) y4.2.2.2.2.2.2.2.2.2.2.1),((cond ((decide (y4.1 = (2:Int))) && (decide (y0.1 = (2:Int)))) (jb9 p0 p1 y0 y2 y4) y4.2.2.2.2.2.2.2.2.2.2.2.1),((cond ((decide (y4.1 = (3:Int))) && (decide (y0.1 = (2:Int)))) (jb9 p0 p1 y0 y2 y4) y4.2.2.2.2.2.2.2.2.2.2.2.2.1),((cond ((decide (y4.1 = (0:Int))) && (decide (y0.1 = (3:Int)))) (jb9 p0 p1 y0 y2 y4) y4.2.2.2.2.2.2.2.2.2.2.2.2.2.1),((cond ((decide (y4.1 = (1:Int))) && (decide (y0.1 = (3:Int)))) (jb9 p0 p1 y0 y2 y4) y4.2.2.2.2.2.2.2.2.2.2.2.2.2.2.1),((cond ((decide (y4.1 = (2:Int))) && (decide (y0.1 = (3:Int)))) (jb9 p0 p1 y0 y2 y4) y4.2.2.2.2.2.2.2.2.2.2.2.2.2.2.2.1),(cond ((decide (y4.1 = (3:Int))) && (decide (y0.1 = (3:Int)))) (jb9 p0 p1 y0 y2 y4) y4.2.2.2.2.2.2.2.2.2.2.2.2.2.2.2.2)))))))))))))))))) (Sum.inr (Sum.inl ((IntKind.i64.wrap (y2.1 + 1)),(y4.2,((cond (decide (y0.1 = (0:Int))) (jiu p0 p1 y0 y2) y2.2.2.1),((cond (decide (y0.1 = (1:Int))) (jiu p0 p1 y0 y2) y2.2.2.2.1),((cond (decide (y0.1 = (2:Int))) (jiu p0 p1 y0 y2) y2.2.2.2.2.1),(cond (decide (y0.1 = (3:Int))) (jiu p0 p1 y0 y2) y2.2.2.2.2.2)))))))))
abbrev jgA (_p0:tQF) (p1:gF) (y0:tQL) (_y2:tQL) (y4:(Int×tQE)):List Prop := [(((decide (y4.1 < (p1.length:Int)))=true)→((0:Int)≤y4.1)),(((decide (y4.1 < (p1.length:Int)))=true)→(y4.1 < (p1.length:Int))),(((decide (y4.1 < (p1.length:Int)))=true)→((0:Int)≤y0.1)),(((decide (y4.1 < (p1.length:Int)))=true)→(y0.1 < 4)),(((decide (y4.1 < (p1.length:Int)))=true)→(y4.1 < 4)),(((decide (y4.1 < (p1.length:Int)))=true)→((0:Int)≤(p1.getD y0.1.toNat (0:Int)))),(((decide (y4.1 < (p1.length:Int)))=true)→((p1.getD y0.1.toNat (0:Int)) < 8)),(((decide (y4.1 < (p1.length:Int)))=true)→((0:Int)≤(p1.getD y4.1.toNat (0:Int)))),(((decide (y4.1 < (p1.length:Int)))=true)→((p1.getD y4.1.toNat (0:Int)) < 8))]
def jdq (p0:tQF) (p1:gF) (y0:tQL) (y2:tQL):tQL ⊕ (tQL ⊕ (tQK×tQD)) := (cond (decide (y2.1 < (p0.length:Int))) (lpv (Sum.inr (Sum.inr ((((0:Int),((0:Int),(0,0))),(((0:Int),((0:Int),(0,0))),(((0:Int),((0:Int),(0,0))),((0:Int),((0:Int),(0,0)))))),((0:Int),((0:Int),(0,0)))))) (jdp p0 p1 y0 y2) ((0:Int),y2.2.1)) (Sum.inr (Sum.inl ((IntKind.i64.wrap (y0.1 + 1)),y2.2))))
abbrev jfK (p0:tQF) (p1:gF) (y0:tQL) (y2:tQL):List Prop := [(((decide (y2.1 < (p0.length:Int)))=true)→(v_smp p0)),(((decide (y2.1 < (p0.length:Int)))=true)→((0:Int)≤y2.1)),(((decide (y2.1 < (p0.length:Int)))=true)→(y2.1 < (p0.length:Int))),(((decide (y2.1 < (p0.length:Int)))=true)→((0:Int)≤y0.1)),(((decide (y2.1 < (p0.length:Int)))=true)→(y0.1 < 4)),(((decide (y2.1 < (p0.length:Int)))=true)→((0:Int)≤(p1.getD y0.1.toNat (0:Int)))),(((decide (y2.1 < (p0.length:Int)))=true)→((p1.getD y0.1.toNat (0:Int)) < 8)),(((decide (y2.1 < (p0.length:Int)))=true)→(OkL (jdp p0 p1 y0 y2) (jgA p0 p1 y0 y2) ((0:Int),y2.2.1)))]
def jdI (p0:tQF) (p1:gF) (y0:tQL):tQL ⊕ (tQK×tQD) := (cond (decide (y0.1 < (p1.length:Int))) (lpv (Sum.inr ((((0:Int),((0:Int),(0,0))),(((0:Int),((0:Int),(0,0))),(((0:Int),((0:Int),(0,0))),((0:Int),((0:Int),(0,0)))))),((0:Int),((0:Int),(0,0))))) (jdq p0 p1 y0) ((0:Int),(((cond ((decide (y0.1 = (0:Int))) && (decide (y0.1 = (0:Int)))) (0:Int) y0.2.1.1),((cond ((decide (y0.1 = (1:Int))) && (decide (y0.1 = (0:Int)))) (0:Int) y0.2.1.2.1),((cond ((decide (y0.1 = (2:Int))) && (decide (y0.1 = (0:Int)))) (0:Int) y0.2.1.2.2.1),((cond ((decide (y0.1 = (3:Int))) && (decide (y0.1 = (0:Int)))) (0:Int) y0.2.1.2.2.2.1),((cond ((decide (y0.1 = (0:Int))) && (decide (y0.1 = (1:Int)))) (0:Int) y0.2.1.2.2.2.2.1),((cond ((decide (y0.1 = (1:Int))) && (decide (y0.1 = (1:Int)))) (0:Int) y0.2.1.2.2.2.2.2.1),((cond ((decide (y0.1 = (2:Int))) && (decide (y0.1 = (1:Int)))) (0:Int) y0.2.1.2.2.2.2.2.2.1),((cond ((decide (y0.1 = (3:Int))) && (decide (y0.1 = (1:Int)))) (0:Int) y0.2.1.2.2.2.2.2.2.2.1),((cond ((decide (y0.1 = (0:Int))) && (decide (y0.1 = (2:Int)))) (0:Int) y0.2.1.2.2.2.2.2.2.2.2.1),((cond ((decide (y0.1 = (1:Int))) && (decide (y0.1 = (2:Int)))) (0:Int) y0.2.1.2.2.2.2.2.2.2.2.2.1),((cond ((decide (y0.1 = (2:Int))) && (decide (y0.1 = (2:Int)))) (0:Int) y0.2.1.2.2.2.2.2.2.2.2.2.2.1),((cond ((decide (y0.1 = (3:Int))) && (decide (y0.1 = (2:Int)))) (0:Int) y0.2.1.2.2.2.2.2.2.2.2.2.2.2.1),((cond ((decide (y0.1 = (0:Int))) && (decide (y0.1 = (3:Int)))) (0:Int) y0.2.1.2.2.2.2.2.2.2.2.2.2.2.2.1),((cond ((decide (y0.1 = (1:Int))) && (decide (y0.1 = (3:Int)))) (0:Int) y0.2.1.2.2.2.2.2.2.2.2.2.2.2.2.2.1),((cond ((decide (y0.1 = (2:Int))) && (decide (y0.1 = (3:Int)))) (0:Int) y0.2.1.2.2.2.2.2.2.2.2.2.2.2.2.2.2.1),(cond ((decide (y0.1 = (3:Int))) && (decide (y0.1 = (3:Int)))) (0:Int) y0.2.1.2.2.2.2.2.2.2.2.2.2.2.2.2.2.2)))))))))))))))),y0.2.2))) (Sum.inr (((y0.2.1.1,(y0.2.1.2.1,(y0.2.1.2.2.1,y0.2.1.2.2.2.1))),((y0.2.1.2.2.2.2.1,(y0.2.1.2.2.2.2.2.1,(y0.2.1.2.2.2.2.2.2.1,y0.2.1.2.2.2.2.2.2.2.1))),((y0.2.1.2.2.2.2.2.2.2.2.1,(y0.2.1.2.2.2.2.2.2.2.2.2.1,(y0.2.1.2.2.2.2.2.2.2.2.2.2.1,y0.2.1.2.2.2.2.2.2.2.2.2.2.2.1))),y0.2.1.2.2.2.2.2.2.2.2.2.2.2.2))),y0.2.2)))
abbrev jgB (p0:tQF) (p1:gF) (y0:tQL):List Prop := [(((decide (y0.1 < (p1.length:Int)))=true)→((0:Int)≤y0.1)),(((decide (y0.1 < (p1.length:Int)))=true)→(y0.1 < (p1.length:Int))),(((decide (y0.1 < (p1.length:Int)))=true)→(y0.1 < 4)),(((decide (y0.1 < (p1.length:Int)))=true)→(OkL (jdq p0 p1 y0) (jfK p0 p1 y0) ((0:Int),(((cond ((decide (y0.1 = (0:Int))) && (decide (y0.1 = (0:Int)))) (0:Int) y0.2.1.1),((cond ((decide (y0.1 = (1:Int))) && (decide (y0.1 = (0:Int)))) (0:Int) y0.2.1.2.1),((cond ((decide (y0.1 = (2:Int))) && (decide (y0.1 = (0:Int)))) (0:Int) y0.2.1.2.2.1),((cond ((decide (y0.1 = (3:Int))) && (decide (y0.1 = (0:Int)))) (0:Int) y0.2.1.2.2.2.1),((cond ((decide (y0.1 = (0:Int))) && (decide (y0.1 = (1:Int)))) (0:Int) y0.2.1.2.2.2.2.1),((cond ((decide (y0.1 = (1:Int))) && (decide (y0.1 = (1:Int)))) (0:Int) y0.2.1.2.2.2.2.2.1),((cond ((decide (y0.1 = (2:Int))) && (decide (y0.1 = (1:Int)))) (0:Int) y0.2.1.2.2.2.2.2.2.1),((cond ((decide (y0.1 = (3:Int))) && (decide (y0.1 = (1:Int)))) (0:Int) y0.2.1.2.2.2.2.2.2.2.1),((cond ((decide (y0.1 = (0:Int))) && (decide (y0.1 = (2:Int)))) (0:Int) y0.2.1.2.2.2.2.2.2.2.2.1),((cond ((decide (y0.1 = (1:Int))) && (decide (y0.1 = (2:Int)))) (0:Int) y0.2.1.2.2.2.2.2.2.2.2.2.1),((cond ((decide (y0.1 = (2:Int))) && (decide (y0.1 = (2:Int)))) (0:Int) y0.2.1.2.2.2.2.2.2.2.2.2.2.1),((cond ((decide (y0.1 = (3:Int))) && (decide (y0.1 = (2:Int)))) (0:Int) y0.2.1.2.2.2.2.2.2.2.2.2.2.2.1),((cond ((decide (y0.1 = (0:Int))) && (decide (y0.1 = (3:Int)))) (0:Int) y0.2.1.2.2.2.2.2.2.2.2.2.2.2.2.1),((cond ((decide (y0.1 = (1:Int))) && (decide (y0.1 = (3:Int)))) (0:Int) y0.2.1.2.2.2.2.2.2.2.2.2.2.2.2.2.1),((cond ((decide (y0.1 = (2:Int))) && (decide (y0.1 = (3:Int)))) (0:Int) y0.2.1.2.2.2.2.2.2.2.2.2.2.2.2.2.2.1),(cond ((decide (y0.1 = (3:Int))) && (decide (y0.1 = (3:Int)))) (0:Int) y0.2.1.2.2.2.2.2.2.2.2.2.2.2.2.2.2.2)))))))))))))))),y0.2.2))))]
def s_Z3 (p0:tQF) (p1:gF):(tQK×tQD) := (lpv ((((0:Int),((0:Int),(0,0))),(((0:Int),((0:Int),(0,0))),(((0:Int),((0:Int),(0,0))),((0:Int),((0:Int),(0,0)))))),((0:Int),((0:Int),(0,0)))) (jdI p0 p1) ((0:Int),(((1:Int),((0:Int),((0:Int),((0:Int),((0:Int),((1:Int),((0:Int),((0:Int),((0:Int),((0:Int),((1:Int),((0:Int),((0:Int),((0:Int),((0:Int),(1:Int)))))))))))))))),((0:Int),((0:Int),(0,0))))))
abbrev jlv (p0:tQF) (p1:gF):List Prop := [(OkL (jdI p0 p1) (jgB p0 p1) ((0:Int),(((1:Int),((0:Int),((0:Int),((0:Int),((0:Int),((1:Int),((0:Int),((0:Int),((0:Int),((0:Int),((1:Int),((0:Int),((0:Int),((0:Int),((0:Int),(1:Int)))))))))))))))),((0:Int),((0:Int),(0,0))))))]
theorem d_Z3 (p0:tQF) (p1:gF) (K:(tQK×tQD)→Prop) (hp:∀ p∈jlv p0 p1,p) (h:K (s_Z3 p0 p1)):w_Z3 p0 p1 K := by
 unfold w_Z3
 unfold s_Z3 at h
 obtain ⟨hp0,_⟩ := jah hp
 exact ⟨31,fun _ => ⟨(od rfl),(od rfl),(od rfl),(od rfl),fun _ => ⟨(od rfl),(od rfl),(od rfl),(od rfl),fun _ => ⟨(od rfl),(od rfl),(od rfl),(od rfl),fun _ => ⟨(od rfl),(od rfl),(od rfl),(od rfl),nof,fun _ => (ja5 (hp0) h (fun y0 k0 hp h => by
 unfold jdI at h; obtain ⟨hp0,hp1,hp2,hp3,_⟩ := jah hp
 exact (br' h (fun e1 h => ⟨(hp0 e1),(hp1 e1),(hp0 e1),(hp2 e1),(hp0 e1),(hp2 e1),(ja5 (hp3 e1) h (fun y2 k2 hp h => by
 unfold jdq at h; obtain ⟨hp0,hp1,hp2,hp3,hp4,hp5,hp6,hp7,_⟩ := jah hp
 exact (br' h (fun e3 h => ⟨(hp0 e3),(hp1 e3),(hp2 e3),(hp3 e3),(hp4 e3),(hp5 e3),(hp6 e3),(hp1 e3),(hp2 e3),(hp3 e3),(hp4 e3),(ja5 (hp7 e3) h (fun y4 k4 hp h => by
 unfold jdp at h; obtain ⟨hp0,hp1,hp2,hp3,hp4,hp5,hp6,hp7,hp8,_⟩ := jah hp
 exact (br' h (fun e5 h => ⟨(hp0 e5),(hp1 e5),(hp2 e5),(hp3 e5),(hp0 e5),(hp4 e5),(hp5 e5),(hp6 e5),(hp7 e5),(hp8 e5),(hp2 e5),(hp3 e5),(hp0 e5),(hp4 e5),h⟩)
  (fun e5 h => h))))⟩)
  (fun e3 h => h))))⟩)
  (fun e1 h => h))))⟩,fun e => Bool.noConfusion (show true = false from e)⟩,fun e => Bool.noConfusion (show true = false from e)⟩,fun e => Bool.noConfusion (show true = false from e)⟩,fun e => Bool.noConfusion (show true = false from e)⟩
abbrev R4:Type := Int×Int×Int×Int
abbrev T16:Type := Int×Int×Int×Int×Int×Int×Int×Int×Int×Int×Int×Int×Int×Int×Int×Int
/-- Sixteen numbers,row by row. -/
def jaW (f:Nat→Nat→Int):T16 := (f 0 0,f 0 1,f 0 2,f 0 3,f 1 0,f 1 1,f 1 2,f 1 3,f 2 0,f 2 1,f 2 2,f 2 3,f 3 0,f 3 1,f 3 2,f 3 3)
def v_up (f:Nat→Nat→Int) (i j:Nat) (x:Int):Nat→Nat→Int := fun r c => cond (Nat.beq r i && Nat.beq c j) x (f r c)
def v_t8 (t:Int×Int×Int×Int×Int×Int×Int×Int) (k:Int):Int := (t.1 :: (t.2.1 :: (t.2.2.1 :: (t.2.2.2.1 :: (t.2.2.2.2.1 :: (t.2.2.2.2.2.1 :: (t.2.2.2.2.2.2.1 :: (t.2.2.2.2.2.2.2 :: ([]:List Int))))))))).getD k.toNat 0
theorem jzH (p0:List tQB) (p1:gF) (m:T16×R4) (y2:Int×T16×R4) (f:Nat→Nat→Int) (i j:Nat) (hi:i < 4) (hj:j < 4) (hl:(j:Int) < p1.length) :
  jdp p0 p1 ((i:Int),m) y2 ((j:Int),jaW f) = .inl (IntKind.i64.wrap ((j:Int) + 1),jaW (v_up f i j (IntKind.i64.wrap (f i j + IntKind.i64.wrap (v_t8 (jae p0 y2.1.toNat) (p1.getD i 0) * v_t8 (jae p0 y2.1.toNat) (p1.getD j 0)))))) := by
 unfold jdp
 rw [decide_eq_true hl,cond_true]
 match i,hi,j,hj with
 | 0,_,0,_ => rfl
 | 0,_,1,_ => rfl
 | 0,_,2,_ => rfl
 | 0,_,3,_ => rfl
 | 1,_,0,_ => rfl
 | 1,_,1,_ => rfl
 | 1,_,2,_ => rfl
 | 1,_,3,_ => rfl
 | 2,_,0,_ => rfl
 | 2,_,1,_ => rfl
 | 2,_,2,_ => rfl
 | 2,_,3,_ => rfl
 | 3,_,0,_ => rfl
 | 3,_,1,_ => rfl
 | 3,_,2,_ => rfl
 | 3,_,3,_ => rfl
def ja4 (g:Nat→Int):R4 := (g 0,g 1,g 2,g 3)
def jbf (g:Nat→Int) (i:Nat) (x:Int):Nat→Int := fun r => cond (Nat.beq r i) x (g r)
theorem jzI (p0:List tQB) (p1:gF) (m:T16×R4) (k:Int) (M M2:T16) (g:Nat→Int) (i:Nat) (hi:i < 4) :
  jdp p0 p1 ((i:Int),m) (k,M,ja4 g) ((p1.length:Int),M2) = .inr (.inl (IntKind.i64.wrap (k + 1),M2,ja4 (jbf g i (IntKind.i64.wrap (g i + IntKind.i64.wrap (v_t8 (jae p0 k.toNat) (p1.getD i 0) * (p0.getD k.toNat (0,0,0,0,0)).2.2.2.2)))))) := by
 unfold jdp
 rw [decide_eq_false (Int.lt_irrefl _),cond_false]
 match i,hi with
 | 0,_ => rfl
 | 1,_ => rfl
 | 2,_ => rfl
 | 3,_ => rfl
theorem jzJ (p0:List tQB) (p1:gF) (R:R4) (f:Nat→Nat→Int) (i:Nat) (hi:i < 4) (hl:(i:Int) < p1.length) :
  jdI p0 p1 ((i:Int),jaW f,R)=lpv (.inr (((0,0,0,0),(0,0,0,0),(0,0,0,0),(0,0,0,0)),0,0,0,0)) (jdq p0 p1 ((i:Int),jaW f,R)) (0,jaW (v_up f i i 0),R) := by
 unfold jdI
 rw [decide_eq_true hl,cond_true]
 match i,hi with
 | 0,_ => rfl
 | 1,_ => rfl
 | 2,_ => rfl
 | 3,_ => rfl
theorem jgC (f:Nat→Nat→Int) (i j:Nat) (x:Int) (r c:Nat):v_up f i j x r c = if r = i∧c = j then x else f r c := by
 unfold v_up
 by_cases h1:r = i
 ·by_cases h2:c = j
  ·subst h1 h2; simp
  ·rw [if_neg (by omega)]
   have:Nat.beq c j = false := by rw [← Bool.not_eq_true,Nat.beq_eq]; exact h2
   rw [this,Bool.and_false]; rfl
 ·rw [if_neg (by omega)]
  have:Nat.beq r i = false := by rw [← Bool.not_eq_true,Nat.beq_eq]; exact h1
  rw [this]; rfl
/-- A row to whose first numbers something is added. -/
def jbe (f:Nat→Nat→Int) (i n:Nat) (T:Nat→Int):Nat→Nat→Int := fun r c => if r = i∧c < n then f i c + T c else f r c
theorem jzK (f:Nat→Nat→Int) (i:Nat) (T:Nat→Int):jbe f i 0 T = f := by
 funext r c
 unfold jbe
 rw [if_neg (by omega)]
theorem jzL (f:Nat→Nat→Int) (i j:Nat) (T:Nat→Int):v_up (jbe f i j T) i j (jbe f i j T i j + T j)=jbe f i (j + 1) T := by
 funext r c
 rw [jgC]
 unfold jbe
 by_cases h1:r = i∧c = j
 ·rw [if_pos h1,if_neg (by omega),if_pos (by omega)]
  rw [h1.2]
 ·rw [if_neg h1]
  by_cases h2:r = i∧c < j
  ·rw [if_pos h2,if_pos (by omega)]
  ·rw [if_neg h2,if_neg (by omega)]
/-- The terms of a sample that are chosen. -/
def v_tk (p0:List tQB) (p1:gF) (k i:Nat):Int := v_t8 (jae p0 k) (p1.getD i 0)
/-- The innermost loop: a row grows by the products of one sample. -/
theorem jzM (p0:List tQB) (p1:gF) (m:T16×R4) (k:Nat) (M:T16) (g:Nat→Int) (f:Nat→Nat→Int) (i:Nat) (hi:i < 4) (hi1:i < p1.length) (hn:p1.length≤4) (hc:∀ j,j < p1.length→0≤p1.getD j 0∧p1.getD j 0 < 8)
  (ht:∀ j,j < p1.length→-100≤v_tk p0 p1 k j∧v_tk p0 p1 k j≤100) (hf:∀ j,j < p1.length→-1000000≤f i j∧f i j≤1000000) (d:(Int×T16×R4) ⊕ ((Int×T16×R4) ⊕ ((R4×R4×R4×R4)×R4))) :
  OkL (jdp p0 p1 ((i:Int),m) ((k:Int),M,ja4 g)) (jgA p0 p1 ((i:Int),m) ((k:Int),M,ja4 g)) (0,jaW f)∧lpv d (jdp p0 p1 ((i:Int),m) ((k:Int),M,ja4 g)) (0,jaW f) = .inl (IntKind.i64.wrap ((k:Int) + 1),jaW (jbe f i p1.length fun j => v_tk p0 p1 k i * v_tk p0 p1 k j),ja4 (jbf g i (IntKind.i64.wrap (g i + IntKind.i64.wrap (v_tk p0 p1 k i * (p0.getD k (0,0,0,0,0)).2.2.2.2))))) := by
 have hti := ht i hi1
 refine @jbN T16 (Int×T16) ((Int×T16×R4) ⊕ ((Int×T16×R4) ⊕ ((R4×R4×R4×R4)×R4))) d (jdp p0 p1 ((i:Int),m) ((k:Int),M,ja4 g)) (jgA p0 p1 ((i:Int),m) ((k:Int),M,ja4 g)) (fun j t => (j,t)) 0 p1.length (fun j t => t = jaW (jbe f i j fun j => v_tk p0 p1 k i * v_tk p0 p1 k j)) (fun _ _ => .inl (IntKind.i64.wrap ((k:Int) + 1),jaW (jbe f i p1.length fun j => v_tk p0 p1 k i * v_tk p0 p1 k j),ja4 (jbf g i (IntKind.i64.wrap (g i + IntKind.i64.wrap (v_tk p0 p1 k i * (p0.getD k (0,0,0,0,0)).2.2.2.2)))))) (Nat.zero_le _) (by omega) ?_ ?_ (jaW f) (by rw [jzK])
 ·rintro t rfl
  refine ⟨?_,?_⟩
  ·simp only [jgA,fM,decide_eq_false (Int.lt_irrefl (p1.length:Int))]
   repeat' refine And.intro ?_ ?_
   all_goals first
    | (intro h; cases h; done)
    | (intro p hp; cases hp; done)
  ·rw [jzI p0 p1 m (k:Int) M _ g i hi]; rfl
 ·rintro j t _ hj rfl
  have hw1:IntKind.i64.wrap ((j:Int) + 1)=((j + 1:Nat):Int) := jar (by omega) (by omega)
  have hci := hc i hi1
  have hcj := hc j hj
  have htj := ht j hj
  have hfj := hf j hj
  have mm := jbn (x := v_tk p0 p1 k i) (y := v_tk p0 p1 k j) (a := 100) (b := 100) hti.1 hti.2 htj.1 htj.2
  have e0:jbe f i j (fun j => v_tk p0 p1 k i * v_tk p0 p1 k j) i j = f i j := by unfold jbe; rw [if_neg (by omega)]
  refine ⟨?_,.inl ⟨jaW (jbe f i (j + 1) fun j => v_tk p0 p1 k i * v_tk p0 p1 k j),?_,rfl,rfl⟩⟩
  ·simp only [jgA,fM,Int.toNat_natCast]
   repeat' refine And.intro ?_ ?_
   all_goals first
    | (intro p hp; cases hp; done)
    | (intros; omega)
  ·rw [jzH p0 p1 m ((k:Int),M,ja4 g) _ i j hi (by omega) (by omega),hw1,← jzL,e0]
   show Sum.inl (((j + 1:Nat):Int),jaW (v_up _ i j (IntKind.i64.wrap (_ + IntKind.i64.wrap (v_tk p0 p1 k i * v_tk p0 p1 k j)))))=_
   rw [jar (n := v_tk p0 p1 k i * v_tk p0 p1 k j) (by omega) (by omega),jar (n := f i j + v_tk p0 p1 k i * v_tk p0 p1 k j) (by omega) (by omega)]
/-- Sums over the samples ahead of one. -/
def v_gs (p0:List tQB) (p1:gF) (i j n:Nat):Int := jaw (fun k => v_tk p0 p1 k i * v_tk p0 p1 k j) 0 n
def v_rs (p0:List tQB) (p1:gF) (i n:Nat):Int := jaw (fun k => v_tk p0 p1 k i * (p0.getD k (0,0,0,0,0)).2.2.2.2) 0 n
theorem jzN (f:Nat→Nat→Int) (i n:Nat) (A B:Nat→Int):jbe (jbe f i n A) i n B = jbe f i n (fun j => A j + B j) := by
 funext r c
 unfold jbe
 by_cases h:r = i∧c < n
 ·rw [if_pos h,if_pos ⟨rfl,h.2⟩,if_pos h]; exact Int.add_assoc _ _ _
 ·rw [if_neg h,if_neg h,if_neg h]
theorem jzO (g:Nat→Int) (i:Nat) (x y:Int):jbf (jbf g i x) i y = jbf g i y := by
 funext r
 unfold jbf
 cases Nat.beq r i <;> rfl
theorem jrb (g:Nat→Int) (i:Nat) (x:Int):jbf g i x i = x := by
 unfold jbf
 rw [show Nat.beq i i = true from Nat.beq_refl i]; rfl
theorem jzP (g:Nat→Int) (i:Nat):jbf g i (g i)=g := by
 funext r
 unfold jbf
 cases h:Nat.beq r i
 ·rfl
 ·rw [Nat.eq_of_beq_eq_true h]; rfl
theorem jzQ (p0:List tQB) (p1:gF) (m:T16×R4) (g:Nat→Int) (f:Nat→Nat→Int) (i:Nat) (hs:v_smp p0) (hi:i < 4) (hi1:i < p1.length) (hn:p1.length≤4) (hc:∀ j,j < p1.length→0≤p1.getD j 0∧p1.getD j 0 < 8)
  (ht:∀ k,k < p0.length→∀ j,j < p1.length→-100≤v_tk p0 p1 k j∧v_tk p0 p1 k j≤100) (hf:∀ j,j < p1.length→f i j = 0) (hg:g i = 0) (d:(Int×T16×R4) ⊕ ((R4×R4×R4×R4)×R4)) :
  OkL (jdq p0 p1 ((i:Int),m)) (jfK p0 p1 ((i:Int),m)) (0,jaW f,ja4 g)∧lpv d (jdq p0 p1 ((i:Int),m)) (0,jaW f,ja4 g) = .inl (((i + 1:Nat):Int),jaW (jbe f i p1.length fun j => v_gs p0 p1 i j p0.length),ja4 (jbf g i (v_rs p0 p1 i p0.length))) := by
 have hl := hs.len
 have hwi:IntKind.i64.wrap ((i:Int) + 1)=((i + 1:Nat):Int) := jar (by omega) (by omega)
 have hci := hc i hi1
 refine @jbN (T16×R4) (Int×T16×R4) ((Int×T16×R4) ⊕ ((R4×R4×R4×R4)×R4)) d (jdq p0 p1 ((i:Int),m)) (jfK p0 p1 ((i:Int),m)) (fun k t => (k,t)) 0 p0.length (fun k t => t = (jaW (jbe f i p1.length fun j => v_gs p0 p1 i j k),ja4 (jbf g i (v_rs p0 p1 i k)))) (fun _ _ => .inl (((i + 1:Nat):Int),jaW (jbe f i p1.length fun j => v_gs p0 p1 i j p0.length),ja4 (jbf g i (v_rs p0 p1 i p0.length)))) (Nat.zero_le _) (by omega) ?_ ?_ (jaW f,ja4 g) ?_
 ·rintro t rfl
  refine ⟨?_,?_⟩
  ·simp only [jfK,fM,decide_eq_false (Int.lt_irrefl (p0.length:Int))]
   repeat' refine And.intro ?_ ?_
   all_goals first
    | (intro h; cases h; done)
    | (intro p hp; cases hp; done)
  ·simp only [jdq,decide_eq_false (Int.lt_irrefl (p0.length:Int)),cond_false,hwi]
 ·rintro k t _ hk rfl
  have hw1:IntKind.i64.wrap ((k:Int) + 1)=((k + 1:Nat):Int) := jar (by omega) (by omega)
  have hd:decide ((k:Int) < (p0.length:Int))=true := decide_eq_true (by omega)
  have hv := (hs.ok _ (jbF (0,0,0,0,0) hk)).v
  have hti := ht k hk i hi1
  have mm := jbn (x := v_tk p0 p1 k i) (y := (p0.getD k (0,0,0,0,0)).2.2.2.2) (a := 100) (b := 100000) hti.1 hti.2 hv.1 hv.2
  have sg:∀ j,j < p1.length→-((k:Int) * 10000)≤v_gs p0 p1 i j k∧v_gs p0 p1 i j k≤(k:Int) * 10000 := fun j hj => jeF k 0 fun q _ hq => by
   have a := ht q (by omega) i hi1
   have b := ht q (by omega) j hj
   have := jbn (x := v_tk p0 p1 q i) (y := v_tk p0 p1 q j) (a := 100) (b := 100) a.1 a.2 b.1 b.2
   omega
  have sr : -((k:Int) * 10000000)≤v_rs p0 p1 i k∧v_rs p0 p1 i k≤(k:Int) * 10000000 := jeF k 0 fun q _ hq => by
   have a := ht q (by omega) i hi1
   have b := (hs.ok _ (jbF (0,0,0,0,0) (show q < p0.length by omega))).v
   have := jbn (x := v_tk p0 p1 q i) (y := (p0.getD q (0,0,0,0,0)).2.2.2.2) (a := 100) (b := 100000) a.1 a.2 b.1 b.2
   omega
  have hrow:∀ j,j < p1.length→jbe f i p1.length (fun j => v_gs p0 p1 i j k) i j = v_gs p0 p1 i j k := fun j hj => by
   unfold jbe
   rw [if_pos ⟨rfl,hj⟩,hf j hj,Int.zero_add]
  obtain ⟨l1,l2⟩ := jzM p0 p1 m k (jaW (jbe f i p1.length fun j => v_gs p0 p1 i j k)) (jbf g i (v_rs p0 p1 i k)) (jbe f i p1.length fun j => v_gs p0 p1 i j k) i hi hi1 hn hc (ht k hk) (fun j hj => by rw [hrow j hj]; have := sg j hj; omega) (.inr (.inr (((0,0,0,0),(0,0,0,0),(0,0,0,0),(0,0,0,0)),0,0,0,0)))
  refine ⟨?_,.inl ⟨(jaW (jbe f i p1.length fun j => v_gs p0 p1 i j (k + 1)),ja4 (jbf g i (v_rs p0 p1 i (k + 1)))),?_,rfl,rfl⟩⟩
  ·simp only [jfK,fM,Int.toNat_natCast]
   repeat' refine And.intro ?_ ?_
   all_goals first
    | (intro p hp; cases hp; done)
    | (intros; exact hs)
    | (intros; omega)
    | (intros; exact l1)
  ·have e1:jbe (jbe f i p1.length fun j => v_gs p0 p1 i j k) i p1.length (fun j => v_tk p0 p1 k i * v_tk p0 p1 k j)=jbe f i p1.length fun j => v_gs p0 p1 i j (k + 1) := by
    rw [jzN]
    congr 1
    funext j
    unfold v_gs
    rw [jcx,Nat.zero_add]
   have e2:v_rs p0 p1 i (k + 1)=v_rs p0 p1 i k + v_tk p0 p1 k i * (p0.getD k (0,0,0,0,0)).2.2.2.2 := by
    unfold v_rs
    rw [jcx,Nat.zero_add]
   unfold jdq
   simp only [hd,cond_true]
   rw [l2,hw1,e1,jzO,jrb,jar (n := v_tk p0 p1 k i * (p0.getD k (0,0,0,0,0)).2.2.2.2) (by omega) (by omega),jar (n := v_rs p0 p1 i k + v_tk p0 p1 k i * (p0.getD k (0,0,0,0,0)).2.2.2.2) (by omega) (by omega),e2]
 ·have z1:(jbe f i p1.length fun j => v_gs p0 p1 i j 0)=f := by
   funext r c
   unfold jbe v_gs jaw
   by_cases h:r = i∧c < p1.length
   ·rw [if_pos h,h.1]; exact Int.add_zero _
   ·rw [if_neg h]
  have z2:jbf g i (v_rs p0 p1 i 0)=g := by
   have:v_rs p0 p1 i 0 = g i := by rw [hg]; rfl
   rw [this,jzP]
  rw [z1,z2]
/-- The equations' matrix once some rows are done; the right side. -/
def jat (p0:List tQB) (p1:gF) (i:Nat):Nat→Nat→Int := fun r c => if r < i then (if c < p1.length then v_gs p0 p1 r c p0.length else 0) else (if r = c then 1 else 0)
def jba (p0:List tQB) (p1:gF) (i:Nat):Nat→Int := fun r => if r < i then v_rs p0 p1 r p0.length else 0
def jav (f:Nat→Nat→Int):R4×R4×R4×R4 := ((f 0 0,f 0 1,f 0 2,f 0 3),(f 1 0,f 1 1,f 1 2,f 1 3),(f 2 0,f 2 1,f 2 2,f 2 3),(f 3 0,f 3 1,f 3 2,f 3 3))
theorem jzR (p0:List tQB) (p1:gF) {i:Nat} (hi:i < p1.length):jbe (v_up (jat p0 p1 i) i i 0) i p1.length (fun j => v_gs p0 p1 i j p0.length)=jat p0 p1 (i + 1) := by
 funext r c
 unfold jbe
 rw [jgC,jgC]
 unfold jat
 grind
theorem jzS (p0:List tQB) (p1:gF) (i:Nat):jbf (jba p0 p1 i) i (v_rs p0 p1 i p0.length)=jba p0 p1 (i + 1) := by
 funext r
 unfold jbf jba
 by_cases h:r = i
 ·subst h
  rw [show Nat.beq r r = true from Nat.beq_refl r,cond_true,if_pos (by omega)]
 ·have:Nat.beq r i = false := by rw [← Bool.not_eq_true,Nat.beq_eq]; exact h
  rw [this,cond_false]
  by_cases h2:r < i
  ·rw [if_pos h2,if_pos (by omega)]
  ·rw [if_neg h2,if_neg (by omega)]
theorem jrc (p0:List tQB) (p1:gF) (hs:v_smp p0) (hn:p1.length≤4) (hc:∀ j,j < p1.length→0≤p1.getD j 0∧p1.getD j 0 < 8)
  (ht:∀ k,k < p0.length→∀ j,j < p1.length→-100≤v_tk p0 p1 k j∧v_tk p0 p1 k j≤100) (d:(R4×R4×R4×R4)×R4) :
  OkL (jdI p0 p1) (jgB p0 p1) (0,jaW (jat p0 p1 0),ja4 (jba p0 p1 0))∧lpv d (jdI p0 p1) (0,jaW (jat p0 p1 0),ja4 (jba p0 p1 0))=(jav (jat p0 p1 p1.length),ja4 (jba p0 p1 p1.length)) := by
 refine @jbN PUnit (Int×T16×R4) ((R4×R4×R4×R4)×R4) d (jdI p0 p1) (jgB p0 p1) (fun i _ => (i,jaW (jat p0 p1 i.toNat),ja4 (jba p0 p1 i.toNat))) 0 p1.length (fun _ _ => True) (fun _ _ => (jav (jat p0 p1 p1.length),ja4 (jba p0 p1 p1.length))) (Nat.zero_le _) (by omega) ?_ ?_ ⟨⟩ trivial
 ·rintro t _
  rw [Int.toNat_natCast]
  refine ⟨?_,?_⟩
  ·simp only [jgB,fM,decide_eq_false (Int.lt_irrefl (p1.length:Int))]
   repeat' refine And.intro ?_ ?_
   all_goals first
    | (intro h; cases h; done)
    | (intro p hp; cases hp; done)
  ·unfold jdI
   rw [decide_eq_false (Int.lt_irrefl _),cond_false]; rfl
 ·rintro i t _ hi _
  have hi4:i < 4 := by omega
  have hfi:∀ j,j < p1.length→v_up (jat p0 p1 i) i i 0 i j = 0 := fun j hj => by
   rw [jgC]
   by_cases h:j = i
   ·rw [if_pos ⟨rfl,h⟩]
   ·rw [if_neg (by omega)]
    unfold jat
    rw [if_neg (by omega),if_neg (by omega)]
  have hgi:jba p0 p1 i i = 0 := by unfold jba; rw [if_neg (by omega)]
  obtain ⟨l1,l2⟩ := jzQ p0 p1 (jaW (jat p0 p1 i),ja4 (jba p0 p1 i)) (jba p0 p1 i) (v_up (jat p0 p1 i) i i 0) i hs hi4 hi hn hc ht hfi hgi (.inr (((0,0,0,0),(0,0,0,0),(0,0,0,0),(0,0,0,0)),0,0,0,0))
  rw [Int.toNat_natCast,Int.toNat_natCast]
  refine ⟨?_,.inl ⟨⟨⟩,?_,trivial,rfl⟩⟩
  ·have e:jgB p0 p1 ((i:Int),jaW (jat p0 p1 i),ja4 (jba p0 p1 i))=[(decide ((i:Int) < (p1.length:Int))=true→(0:Int)≤(i:Int)),(decide ((i:Int) < (p1.length:Int))=true→(i:Int) < (p1.length:Int)),(decide ((i:Int) < (p1.length:Int))=true→(i:Int) < 4),(decide ((i:Int) < (p1.length:Int))=true→OkL (jdq p0 p1 ((i:Int),jaW (jat p0 p1 i),ja4 (jba p0 p1 i))) (jfK p0 p1 ((i:Int),jaW (jat p0 p1 i),ja4 (jba p0 p1 i))) (0,jaW (v_up (jat p0 p1 i) i i 0),ja4 (jba p0 p1 i)))] := by
    match i,hi4 with
    | 0,_ => rfl
    | 1,_ => rfl
    | 2,_ => rfl
    | 3,_ => rfl
   rw [e]
   simp only [fM]
   exact ⟨fun _ => by omega,fun _ => by omega,fun _ => by omega,fun _ => l1,fun p hp => by cases hp⟩
  ·rw [jzJ p0 p1 _ _ i hi4 (by omega),l2,jzR p0 p1 hi,jzS]
theorem jgD {p0:List tQB} {p1:List Int} (hs:v_smp p0) {k:Nat} (hk:k < p0.length) (j:Nat) : -100≤v_tk p0 p1 k j∧v_tk p0 p1 k j≤100 := by
 have a := hs.ok _ (jbF (0,0,0,0,0) hk)
 have b := hs.ok _ (jbF (0,0,0,0,0) (show k - 1 < p0.length by omega))
 have xx := jfJ a.x a.x
 have xy := jfJ a.x a.y
 have ax := a.x
 have ay := a.y
 have az := a.z
 have bx := b.x
 have by' := b.y
 have key:∀ x∈((jae p0 k).1 :: ((jae p0 k).2.1 :: ((jae p0 k).2.2.1 :: ((jae p0 k).2.2.2.1 :: ((jae p0 k).2.2.2.2.1 :: ((jae p0 k).2.2.2.2.2.1 :: ((jae p0 k).2.2.2.2.2.2.1 :: ((jae p0 k).2.2.2.2.2.2.2 :: ([]:List Int))))))))),-100≤x∧x≤100 := by
  unfold jae
  simp only [fM]
  exact ⟨by omega,by omega,by omega,by omega,by omega,by omega,by omega,by omega,fun x hx => by cases hx⟩
 unfold v_tk v_t8
 rcases Nat.lt_or_ge (p1.getD j 0).toNat 8 with g | g
 ·exact key _ (jbF 0 g)
 ·rw [jdA _ g]; omega
/-- Indexes of terms. -/
def v_c8 (l:gF):Prop := ∀ j,j < l.length→0≤l.getD j 0∧l.getD j 0 < 8
theorem jrd (p0:List tQB) (p1:gF):((0:Int),((1,0,0,0,0,1,0,0,0,0,1,0,0,0,0,1):T16),((0,0,0,0):R4))=(0,jaW (jat p0 p1 0),ja4 (jba p0 p1 0)) := rfl
abbrev t_Z3 (p0:List tQB) (p1:gF):(tQI×tQI×tQI×tQI)×tQI := (jav (jat p0 p1 p1.length),ja4 (jba p0 p1 p1.length))
abbrev jlw (p0:List tQB) (p1:gF):List Prop := [v_smp p0,p1.length≤4,v_c8 p1]
theorem jzT (p0:List tQB) (p1:gF) (hq:∀ p∈jlw p0 p1,p):∀ p∈jlv p0 p1,p := by
 obtain ⟨h1,h2,h3,_⟩ := jah hq
 simp only [jlv,fM]
 have := (jrc p0 p1 h1 h2 h3 (fun k hk j _ => jgD h1 hk j) (((0,0,0,0),(0,0,0,0),(0,0,0,0),(0,0,0,0)),0,0,0,0)).1
 rw [← jrd] at this
 exact ⟨this,by simp⟩
theorem jzU (p0:List tQB) (p1:gF) (hq:∀ p∈jlw p0 p1,p):s_Z3 p0 p1 = t_Z3 p0 p1 := by
 obtain ⟨h1,h2,h3,_⟩ := jah hq
 have := (jrc p0 p1 h1 h2 h3 (fun k hk j _ => jgD h1 hk j) (((0,0,0,0),(0,0,0,0),(0,0,0,0),(0,0,0,0)),0,0,0,0)).2
 rw [← jrd] at this
 exact this

abbrev jre:Con := ⟨P_Z3,R_Z3,fun x => jlw x.1 x.2,fun x => t_Z3 x.1 x.2⟩
theorem jzV:jau Try.prog 30 jre := okG k_Z3 e_Z3 jzF fun x hx => jaA (jzG x.1 x.2 _) (d_Z3 x.1 x.2 _ (jzT x.1 x.2 hx) (jzU x.1 x.2 hx))
def C_Zj:Cons := []
theorem jzW:jag Try.prog C_Zj := jag.nil
def w_Zj (p0:Int) (p1:Int) (K:Int→Prop):Prop := (∃ n0,(jaX (fun (y1:gG) k2 => ((((y1.1 != 0)=true) →((y1.1 ≠ zz0) ∧(k2 ((Int.tmod y1.2 y1.1),y1.1)))) ∧(((y1.1 != 0)=false) →(K y1.2)))) n0 (p1,p0)))
theorem jzX (p0:Int) (p1:Int) (K:Int→Prop):tfn F_Zj A_Zj C_Zj P_Zj R_Zj (p0,p1) K = w_Zj p0 p1 K := by kernel_rfl
def jfL (_p0:Int) (_p1:Int) (y0:gG):tQG ⊕ Int := (cond (y0.1 != 0) (Sum.inl ((Int.tmod y0.2 y0.1),y0.1)) (Sum.inr y0.2))
abbrev jlx (_p0:Int) (_p1:Int) (y0:gG):List Prop := [(((y0.1 != 0)=true)→(y0.1 ≠ (0:Int)))]
def s_Zj (p0:Int) (p1:Int):Int := (lpv (0:Int) (jfL p0 p1) (p1,p0))
abbrev jly (p0:Int) (p1:Int):List Prop := [(OkL (jfL p0 p1) (jlx p0 p1) (p1,p0))]
theorem d_Zj (p0:Int) (p1:Int) (K:Int→Prop) (hp:∀ p∈jly p0 p1,p) (h:K (s_Zj p0 p1)):w_Zj p0 p1 K := by
 unfold w_Zj
 unfold s_Zj at h
 obtain ⟨hp0,_⟩ := jah hp
 exact (ja5 (hp0) h (fun y0 k0 hp h => by
 unfold jfL at h; obtain ⟨hp0,_⟩ := jah hp
 exact (br' h (fun e1 h => ⟨(hp0 e1),h⟩)
  (fun e1 h => h))))
theorem jrf (p0 p1:Int) (h0:0≤p0) (h1:0≤p1∧p1 < 18446744073709551616):OkL (jfL p0 p1) (jlx p0 p1) (p1,p0)∧lpv 0 (jfL p0 p1) (p1,p0)=ja3 p0 p1 := by
 refine jf6 (fun (y:gG) => 0≤y.1∧0≤y.2) (fun (y:gG) => y.1.toNat) (fun (y:gG) => ja3 y.2 y.1) ?_ ⟨h1.1,h0⟩ (by unfold fuel; simp only; omega)
 rintro ⟨b,a⟩ ⟨g1,g2⟩
 simp only at g1 g2
 simp only [jlx,jfL,fM]
 refine ⟨⟨fun e => bne_iff_ne.1 e,fun p hp => by cases hp⟩,?_⟩
 cases c:(b != 0)
 ·have c := (bne_eq_false_iff_eq ..).1 c
  subst c
  simp only [cond_false]
  unfold ja3
  rw [Int.gcd_zero_right]; omega
 ·have c := bne_iff_ne.1 c
  have e:Int.tmod a b = a % b := Int.tmod_eq_emod_of_nonneg g2
  have r1 := Int.emod_nonneg a c
  have r2 := Int.emod_lt_of_pos a (show 0 < b by omega)
  simp only [cond_true,e]
  refine ⟨⟨r1,g1⟩,by omega,?_⟩
  rw [← e]
  exact jFM a b
abbrev t_Zj (p0:Int) (p1:Int):Int := ja3 p0 p1
abbrev jlz (p0:Int) (p1:Int):List Prop := [0≤p0∧p0 < 18446744073709551616,0≤p1∧p1 < 18446744073709551616]
theorem jzY (p0:Int) (p1:Int) (hq:∀ p∈jlz p0 p1,p):∀ p∈jly p0 p1,p := by
 obtain ⟨h1,h2,_⟩ := jah hq
 simp only [jly,fM]
 exact ⟨(jrf p0 p1 h1.1 h2).1,by simp⟩
theorem jzZ (p0:Int) (p1:Int) (hq:∀ p∈jlz p0 p1,p):s_Zj p0 p1 = t_Zj p0 p1 := by
 obtain ⟨h1,h2,_⟩ := jah hq
 exact (jrf p0 p1 h1.1 h2).2

abbrev jlA:Con := ⟨P_Zj,R_Zj,fun x => jlz x.1 x.2,fun x => t_Zj x.1 x.2⟩
theorem jrg:jau Try.prog 34 jlA := okG k_Zj e_Zj jzW fun x hx => jaA (jzX x.1 x.2 _) (d_Zj x.1 x.2 _ (jzY x.1 x.2 hx) (jzZ x.1 x.2 hx))
def jrh:Cons := []
theorem jz0:jag Try.prog jrh := jag.nil
def jlB (p0:Int) (K:Int→Prop):Prop := ((((decide (p0 ≥ 4294967296))=true) →((((decide ((jab .u64 p0 (32:Int)) ≥ 65536))=true) →((((decide ((jab .u64 (jab .u64 p0 (32:Int)) (16:Int)) ≥ 256))=true) →((zz0≤(IntKind.wrap .u8 (jab .u64 (jab .u64 (jab .u64 p0 (32:Int)) (16:Int)) (8:Int)))) ∧(((IntKind.wrap .u8 (jab .u64 (jab .u64 (jab .u64 p0 (32:Int)) (16:Int)) (8:Int))) < (((ByteArray.size ja1):Nat):Int)) ∧(K (IntKind.i64.wrap ((56:Int) + (IntKind.i64.wrap (jbr ja1 (IntKind.wrap .u8 (jab .u64 (jab .u64 (jab .u64 p0 (32:Int)) (16:Int)) (8:Int))))))))))) ∧(((decide ((jab .u64 (jab .u64 p0 (32:Int)) (16:Int)) ≥ 256))=false) →((zz0≤(IntKind.wrap .u8 (jab .u64 (jab .u64 p0 (32:Int)) (16:Int)))) ∧(((IntKind.wrap .u8 (jab .u64 (jab .u64 p0 (32:Int)) (16:Int))) < (((ByteArray.size ja1):Nat):Int)) ∧(K (IntKind.i64.wrap ((48:Int) + (IntKind.i64.wrap (jbr ja1 (IntKind.wrap .u8 (jab .u64 (jab .u64 p0 (32:Int)) (16:Int))))))))))))) ∧(((decide ((jab .u64 p0 (32:Int)) ≥ 65536))=false) →((((decide ((jab .u64 p0 (32:Int)) ≥ 256))=true) →((zz0≤(IntKind.wrap .u8 (jab .u64 (jab .u64 p0 (32:Int)) (8:Int)))) ∧(((IntKind.wrap .u8 (jab .u64 (jab .u64 p0 (32:Int)) (8:Int))) < (((ByteArray.size ja1):Nat):Int)) ∧(K (IntKind.i64.wrap ((40:Int) + (IntKind.i64.wrap (jbr ja1 (IntKind.wrap .u8 (jab .u64 (jab .u64 p0 (32:Int)) (8:Int))))))))))) ∧(((decide ((jab .u64 p0 (32:Int)) ≥ 256))=false) →((zz0≤(IntKind.wrap .u8 (jab .u64 p0 (32:Int)))) ∧(((IntKind.wrap .u8 (jab .u64 p0 (32:Int))) < (((ByteArray.size ja1):Nat):Int)) ∧(K (IntKind.i64.wrap ((32:Int) + (IntKind.i64.wrap (jbr ja1 (IntKind.wrap .u8 (jab .u64 p0 (32:Int))))))))))))))) ∧(((decide (p0 ≥ 4294967296))=false) →((((decide (p0 ≥ 65536))=true) →((((decide ((jab .u64 p0 (16:Int)) ≥ 256))=true) →((zz0≤(IntKind.wrap .u8 (jab .u64 (jab .u64 p0 (16:Int)) (8:Int)))) ∧(((IntKind.wrap .u8 (jab .u64 (jab .u64 p0 (16:Int)) (8:Int))) < (((ByteArray.size ja1):Nat):Int)) ∧(K (IntKind.i64.wrap ((24:Int) + (IntKind.i64.wrap (jbr ja1 (IntKind.wrap .u8 (jab .u64 (jab .u64 p0 (16:Int)) (8:Int))))))))))) ∧(((decide ((jab .u64 p0 (16:Int)) ≥ 256))=false) →((zz0≤(IntKind.wrap .u8 (jab .u64 p0 (16:Int)))) ∧(((IntKind.wrap .u8 (jab .u64 p0 (16:Int))) < (((ByteArray.size ja1):Nat):Int)) ∧(K (IntKind.i64.wrap ((16:Int) + (IntKind.i64.wrap (jbr ja1 (IntKind.wrap .u8 (jab .u64 p0 (16:Int))))))))))))) ∧(((decide (p0 ≥ 65536))=false) →((((decide (p0 ≥ 256))=true) →((zz0≤(IntKind.wrap .u8 (jab .u64 p0 (8:Int)))) ∧(((IntKind.wrap .u8 (jab .u64 p0 (8:Int))) < (((ByteArray.size ja1):Nat):Int)) ∧(K (IntKind.i64.wrap ((8:Int) + (IntKind.i64.wrap (jbr ja1 (IntKind.wrap .u8 (jab .u64 p0 (8:Int))))))))))) ∧(((decide (p0 ≥ 256))=false) →((zz0≤(IntKind.wrap .u8 p0)) ∧(((IntKind.wrap .u8 p0) < (((ByteArray.size ja1):Nat):Int)) ∧(K (IntKind.i64.wrap (zz0 + (IntKind.i64.wrap (jbr ja1 (IntKind.wrap .u8 p0))))))))))))))
theorem jz1 (p0:Int) (K:Int→Prop):tfn jia jxT jrh jp4 jp5 p0 K = jlB p0 K := by kernel_rfl
def jiv (p0:Int):Int := (cond (decide (p0 ≥ 4294967296)) (cond (decide ((jab .u64 p0 (32:Int)) ≥ 65536)) (cond (decide ((jab .u64 (jab .u64 p0 (32:Int)) (16:Int)) ≥ 256)) (IntKind.i64.wrap ((56:Int) + (IntKind.i64.wrap (jbr ja1 (IntKind.wrap .u8 (jab .u64 (jab .u64 (jab .u64 p0 (32:Int)) (16:Int)) (8:Int))))))) (IntKind.i64.wrap ((48:Int) + (IntKind.i64.wrap (jbr ja1 (IntKind.wrap .u8 (jab .u64 (jab .u64 p0 (32:Int)) (16:Int)))))))) (cond (decide ((jab .u64 p0 (32:Int)) ≥ 256)) (IntKind.i64.wrap ((40:Int) + (IntKind.i64.wrap (jbr ja1 (IntKind.wrap .u8 (jab .u64 (jab .u64 p0 (32:Int)) (8:Int))))))) (IntKind.i64.wrap ((32:Int) + (IntKind.i64.wrap (jbr ja1 (IntKind.wrap .u8 (jab .u64 p0 (32:Int))))))))) (cond (decide (p0 ≥ 65536)) (cond (decide ((jab .u64 p0 (16:Int)) ≥ 256)) (IntKind.i64.wrap ((24:Int) + (IntKind.i64.wrap (jbr ja1 (IntKind.wrap .u8 (jab .u64 (jab .u64 p0 (16:Int)) (8:Int))))))) (IntKind.i64.wrap ((16:Int) + (IntKind.i64.wrap (jbr ja1 (IntKind.wrap .u8 (jab .u64 p0 (16:Int)))))))) (cond (decide (p0 ≥ 256)) (IntKind.i64.wrap ((8:Int) + (IntKind.i64.wrap (jbr ja1 (IntKind.wrap .u8 (jab .u64 p0 (8:Int))))))) (IntKind.i64.wrap ((0:Int) + (IntKind.i64.wrap (jbr ja1 (IntKind.wrap .u8 p0))))))))
abbrev jlC (p0:Int):List Prop := [(((decide (p0 ≥ 4294967296))=true)→(((decide ((jab .u64 p0 (32:Int)) ≥ 65536))=true)→(((decide ((jab .u64 (jab .u64 p0 (32:Int)) (16:Int)) ≥ 256))=true)→((0:Int)≤(IntKind.wrap .u8 (jab .u64 (jab .u64 (jab .u64 p0 (32:Int)) (16:Int)) (8:Int))))))),(((decide (p0 ≥ 4294967296))=true)→(((decide ((jab .u64 p0 (32:Int)) ≥ 65536))=true)→(((decide ((jab .u64 (jab .u64 p0 (32:Int)) (16:Int)) ≥ 256))=true)→((IntKind.wrap .u8 (jab .u64 (jab .u64 (jab .u64 p0 (32:Int)) (16:Int)) (8:Int))) < (((ByteArray.size ja1):Nat):Int))))),(((decide (p0 ≥ 4294967296))=true)→(((decide ((jab .u64 p0 (32:Int)) ≥ 65536))=true)→(((decide ((jab .u64 (jab .u64 p0 (32:Int)) (16:Int)) ≥ 256))=false)→((0:Int)≤(IntKind.wrap .u8 (jab .u64 (jab .u64 p0 (32:Int)) (16:Int))))))),(((decide (p0 ≥ 4294967296))=true)→(((decide ((jab .u64 p0 (32:Int)) ≥ 65536))=true)→(((decide ((jab .u64 (jab .u64 p0 (32:Int)) (16:Int)) ≥ 256))=false)→((IntKind.wrap .u8 (jab .u64 (jab .u64 p0 (32:Int)) (16:Int))) < (((ByteArray.size ja1):Nat):Int))))),(((decide (p0 ≥ 4294967296))=true)→(((decide ((jab .u64 p0 (32:Int)) ≥ 65536))=false)→(((decide ((jab .u64 p0 (32:Int)) ≥ 256))=true)→((0:Int)≤(IntKind.wrap .u8 (jab .u64 (jab .u64 p0 (32:Int)) (8:Int))))))),(((decide (p0 ≥ 4294967296))=true)→(((decide ((jab .u64 p0 (32:Int)) ≥ 65536))=false)→(((decide ((jab .u64 p0 (32:Int)) ≥ 256))=true)→((IntKind.wrap .u8 (jab .u64 (jab .u64 p0 (32:Int)) (8:Int))) < (((ByteArray.size ja1):Nat):Int))))),(((decide (p0 ≥ 4294967296))=true)→(((decide ((jab .u64 p0 (32:Int)) ≥ 65536))=false)→(((decide ((jab .u64 p0 (32:Int)) ≥ 256))=false)→((0:Int)≤(IntKind.wrap .u8 (jab .u64 p0 (32:Int))))))),(((decide (p0 ≥ 4294967296))=true)→(((decide ((jab .u64 p0 (32:Int)) ≥ 65536))=false)→(((decide ((jab .u64 p0 (32:Int)) ≥ 256))=false)→((IntKind.wrap .u8 (jab .u64 p0 (32:Int))) < (((ByteArray.size ja1):Nat):Int))))),(((decide (p0 ≥ 4294967296))=false)→(((decide (p0 ≥ 65536))=true)→(((decide ((jab .u64 p0 (16:Int)) ≥ 256))=true)→((0:Int)≤(IntKind.wrap .u8 (jab .u64 (jab .u64 p0 (16:Int)) (8:Int))))))),(((decide (p0 ≥ 4294967296))=false)→(((decide (p0 ≥ 65536))=true)→(((decide ((jab .u64 p0 (16:Int)) ≥ 256))=true)→((IntKind.wrap .u8 (jab .u64 (jab .u64 p0 (16:Int)) (8:Int))) < (((ByteArray.size ja1):Nat):Int))))),(((decide (p0 ≥ 4294967296))=false)→(((decide (p0 ≥ 65536))=true)→(((decide ((jab .u64 p0 (16:Int)) ≥ 256))=false)→((0:Int)≤(IntKind.wrap .u8 (jab .u64 p0 (16:Int))))))),(((decide (p0 ≥ 4294967296))=false)→(((decide (p0 ≥ 65536))=true)→(((decide ((jab .u64 p0 (16:Int)) ≥ 256))=false)→((IntKind.wrap .u8 (jab .u64 p0 (16:Int))) < (((ByteArray.size ja1):Nat):Int))))),(((decide (p0 ≥ 4294967296))=false)→(((decide (p0 ≥ 65536))=false)→(((decide (p0 ≥ 256))=true)→((0:Int)≤(IntKind.wrap .u8 (jab .u64 p0 (8:Int))))))),(((decide (p0 ≥ 4294967296))=false)→(((decide (p0 ≥ 65536))=false)→(((decide (p0 ≥ 256))=true)→((IntKind.wrap .u8 (jab .u64 p0 (8:Int))) < (((ByteArray.size ja1):Nat):Int))))),(((decide (p0 ≥ 4294967296))=false)→(((decide (p0 ≥ 65536))=false)→(((decide (p0 ≥ 256))=false)→((0:Int)≤(IntKind.wrap .u8 p0))))),(((decide (p0 ≥ 4294967296))=false)→(((decide (p0 ≥ 65536))=false)→(((decide (p0 ≥ 256))=false)→((IntKind.wrap .u8 p0) < (((ByteArray.size ja1):Nat):Int)))))]
theorem jz2 (p0:Int) (K:Int→Prop) (hp:∀ p∈jlC p0,p) (h:K (jiv p0)):jlB p0 K := by
 unfold jlB
 unfold jiv at h
 obtain ⟨hp0,hp1,hp2,hp3,hp4,hp5,hp6,hp7,hp8,hp9,hp10,hp11,hp12,hp13,hp14,hp15,_⟩ := jah hp
 exact (br' h (fun e0 h => (br' h (fun e1 h => (br' h (fun e2 h => ⟨(hp0 e0 e1 e2),(hp1 e0 e1 e2),h⟩)
  (fun e2 h => ⟨(hp2 e0 e1 e2),(hp3 e0 e1 e2),h⟩)))
  (fun e1 h => (br' h (fun e3 h => ⟨(hp4 e0 e1 e3),(hp5 e0 e1 e3),h⟩)
  (fun e3 h => ⟨(hp6 e0 e1 e3),(hp7 e0 e1 e3),h⟩)))))
  (fun e0 h => (br' h (fun e4 h => (br' h (fun e5 h => ⟨(hp8 e0 e4 e5),(hp9 e0 e4 e5),h⟩)
  (fun e5 h => ⟨(hp10 e0 e4 e5),(hp11 e0 e4 e5),h⟩)))
  (fun e4 h => (br' h (fun e6 h => ⟨(hp12 e0 e4 e6),(hp13 e0 e4 e6),h⟩)
  (fun e6 h => ⟨(hp14 e0 e4 e6),(hp15 e0 e4 e6),h⟩))))))
/-- The length of a number in bits. -/
def v_ln (n:Nat):Nat := if n = 0 then 0 else n.log2 + 1
theorem jz3 {n k:Nat} (h1:2 ^ k≤n) (h2:n < 2 ^ (k + 1)):v_ln n = k + 1 := by
 have h0:n ≠ 0 := by have := Nat.two_pow_pos k; omega
 unfold v_ln
 rw [if_neg h0,(Nat.log2_eq_iff h0).2 ⟨h1,h2⟩]
theorem jgE {n:Nat} (h:n ≠ 0):∃ k,v_ln n = k + 1∧2 ^ k≤n∧n < 2 ^ (k + 1) := ⟨n.log2,by unfold v_ln; rw [if_neg h],Nat.log2_self_le h,Nat.lt_log2_self⟩
theorem jeY {n s:Nat} (h:2 ^ s≤n):v_ln n = s + v_ln (n / 2 ^ s) := by
 have hp := Nat.two_pow_pos s
 have h0:n / 2 ^ s ≠ 0 := by
  have := (Nat.le_div_iff_mul_le (x := 1) (y := n) hp).2 (by omega)
  omega
 obtain ⟨k,e,b1,b2⟩ := jgE h0
 have c1 := (Nat.le_div_iff_mul_le hp).1 b1
 have c2 := (Nat.div_lt_iff_lt_mul hp).1 b2
 rw [e,← Nat.add_assoc]
 rw [← Nat.pow_add] at c1 c2
 exact jz3 (by rw [Nat.add_comm]; exact c1) (by rw [show s + k + 1 = k + 1 + s by omega]; exact c2)
theorem jri {n:Nat} (h:n < 256):jbr ja1 (n:Int)=(v_ln n:Int) := by
 have key:(List.range 256).all (fun n => jbr ja1 (n:Int) == (v_ln n:Int))=true := by kernel_rfl
 exact eq_of_beq (List.all_eq_true.1 key n (List.mem_range.2 h))
theorem jb0 (n k:Nat) (hk:k≤64):jab .u64 (n:Int) (k:Int)=((n / 2 ^ k:Nat):Int) := by
 unfold jab
 rw [show min (Int.toNat (k:Int)) (IntKind.bits .u64)=k by rw [show IntKind.bits .u64 = 64 from rfl]; omega,Int.fdiv_eq_ediv_of_nonneg _ (Int.pow_nonneg (by decide))]
 rw [Int.natCast_ediv,Int.natCast_pow]; rfl
theorem u_w8 {n:Nat} (h:n < 256):IntKind.u8.wrap (n:Int)=(n:Int) := by
 simp only [IntKind.wrap,IntKind.bits,IntKind.signed]; simp; omega
abbrev jlD (p0:Int):Int := (v_ln p0.toNat:Int)
abbrev jlE (p0:Int):List Prop := [0≤p0∧p0 < 18446744073709551616]
theorem jz4 (p0:Int) (hq:∀ p∈jlE p0,p):∀ p∈jlC p0,p := by
 obtain ⟨h1,_⟩ := jah hq
 obtain ⟨n,rfl⟩ : ∃ n:Nat,p0 = n := ⟨p0.toNat,by omega⟩
 have s32 := jb0 n 32 (by decide)
 have s16 := jb0 n 16 (by decide)
 have s8 := jb0 n 8 (by decide)
 have t16 := jb0 (n / 2 ^ 32) 16 (by decide)
 have t8 := jb0 (n / 2 ^ 32) 8 (by decide)
 have r8 := jb0 (n / 2 ^ 16) 8 (by decide)
 have q8 := jb0 (n / 2 ^ 32 / 2 ^ 16) 8 (by decide)
 simp only [show ((32:Nat):Int)=32 from rfl,show ((16:Nat):Int)=16 from rfl,show ((8:Nat):Int)=8 from rfl] at s32 s16 s8 t16 t8 r8 q8
 simp only [jlC,fM,s32,s16,s8,t16,t8,r8,q8,show ((ByteArray.size ja1:Nat):Int)=256 from rfl,decide_eq_true_eq,decide_eq_false_iff_not]
 have z:∀ m:Nat,m < 256→(0≤IntKind.u8.wrap (m:Int)∧IntKind.u8.wrap (m:Int) < 256) := fun m hm => by rw [u_w8 hm]; omega
 refine ⟨fun a b c => (z _ (by omega)).1,fun a b c => (z _ (by omega)).2,fun a b c => (z _ (by omega)).1,fun a b c => (z _ (by omega)).2,fun a b c => (z _ (by omega)).1,fun a b c => (z _ (by omega)).2,fun a b c => (z _ (by omega)).1,fun a b c => (z _ (by omega)).2,fun a b c => (z _ (by omega)).1,fun a b c => (z _ (by omega)).2,fun a b c => (z _ (by omega)).1,fun a b c => (z _ (by omega)).2,fun a b c => (z _ (by omega)).1,fun a b c => (z _ (by omega)).2,fun a b c => (z _ (by omega)).1,fun a b c => (z _ (by omega)).2,by simp⟩
theorem jz5 (p0:Int) (hq:∀ p∈jlE p0,p):jiv p0 = jlD p0 := by
 obtain ⟨h1,_⟩ := jah hq
 obtain ⟨n,rfl⟩ : ∃ n:Nat,p0 = n := ⟨p0.toNat,by omega⟩
 have s32 := jb0 n 32 (by decide)
 have s16 := jb0 n 16 (by decide)
 have s8 := jb0 n 8 (by decide)
 have t16 := jb0 (n / 2 ^ 32) 16 (by decide)
 have t8 := jb0 (n / 2 ^ 32) 8 (by decide)
 have r8 := jb0 (n / 2 ^ 16) 8 (by decide)
 have q8 := jb0 (n / 2 ^ 32 / 2 ^ 16) 8 (by decide)
 simp only [show ((32:Nat):Int)=32 from rfl,show ((16:Nat):Int)=16 from rfl,show ((8:Nat):Int)=8 from rfl] at s32 s16 s8 t16 t8 r8 q8
 unfold jiv jlD
 rw [Int.toNat_natCast]
 simp only [s32,s16,s8,t16,t8,r8,q8]
 have fin:∀ m k:Nat,m < 256→k≤56→v_ln n = k + v_ln m→IntKind.i64.wrap ((k:Int) + IntKind.i64.wrap (jbr ja1 (IntKind.u8.wrap (m:Int))))=(v_ln n:Int) := fun m k hm hk e => by
  have hl:v_ln m≤8 := by
   rcases Nat.eq_zero_or_pos m with z | z
   ·subst z; decide
   ·obtain ⟨j,e,b,_⟩ := jgE (n := m) (by omega)
    rcases Nat.lt_or_ge j 8 with g | g
    ·omega
    ·have := Nat.pow_le_pow_right (show 0 < 2 by decide) g
     omega
  rw [u_w8 hm,jri hm,jar (n := (v_ln m:Int)) (by omega) (by omega),jar (n := (k:Int) + (v_ln m:Int)) (by omega) (by omega)]
  omega
 have fin0:n < 256→IntKind.i64.wrap (jbr ja1 (IntKind.u8.wrap (n:Int)))=(v_ln n:Int)∧IntKind.i64.wrap (0 + IntKind.i64.wrap (jbr ja1 (IntKind.u8.wrap (n:Int))))=(v_ln n:Int) := fun hn => by
  have := fin n 0 hn (by omega) (by omega)
  have e:IntKind.i64.wrap (jbr ja1 (IntKind.u8.wrap (n:Int)))=(v_ln n:Int) := by
   have hl:v_ln n≤8 := by
    rcases Nat.eq_zero_or_pos n with z | z
    ·subst z; decide
    ·obtain ⟨j,e,b,_⟩ := jgE (n := n) (by omega)
     rcases Nat.lt_or_ge j 8 with g | g
     ·omega
     ·have := Nat.pow_le_pow_right (show 0 < 2 by decide) g
      omega
   rw [u_w8 hn,jri hn,jar (n := (v_ln n:Int)) (by omega) (by omega)]
  exact ⟨e,this⟩
 cases a:decide ((n:Int) ≥ 4294967296)
 ·have a := of_decide_eq_false a
  simp only [cond_false]
  cases b:decide ((n:Int) ≥ 65536)
  ·have b := of_decide_eq_false b
   simp only [cond_false]
   cases c:decide ((n:Int) ≥ 256)
   ·have c := of_decide_eq_false c
    obtain ⟨f1,f2⟩ := fin0 (by omega)
    first | exact f1 | exact f2
   ·have c := of_decide_eq_true c
    exact fin _ 8 (by omega) (by omega) (jeY (s := 8) (by omega))
  ·have b := of_decide_eq_true b
   simp only [cond_true]
   have e1 := jeY (n := n) (s := 16) (by omega)
   cases c:decide (((n / 2 ^ 16:Nat):Int) ≥ 256)
   ·have c := of_decide_eq_false c
    exact fin _ 16 (by omega) (by omega) e1
   ·have c := of_decide_eq_true c
    have e2 := jeY (n := n / 2 ^ 16) (s := 8) (by omega)
    exact fin _ 24 (by omega) (by omega) (by omega)
 ·have a := of_decide_eq_true a
  simp only [cond_true]
  have e0 := jeY (n := n) (s := 32) (by omega)
  cases b:decide (((n / 2 ^ 32:Nat):Int) ≥ 65536)
  ·have b := of_decide_eq_false b
   simp only [cond_false]
   cases c:decide (((n / 2 ^ 32:Nat):Int) ≥ 256)
   ·have c := of_decide_eq_false c
    exact fin _ 32 (by omega) (by omega) e0
   ·have c := of_decide_eq_true c
    have e2 := jeY (n := n / 2 ^ 32) (s := 8) (by omega)
    exact fin _ 40 (by omega) (by omega) (by omega)
  ·have b := of_decide_eq_true b
   simp only [cond_true]
   have e1 := jeY (n := n / 2 ^ 32) (s := 16) (by omega)
   cases c:decide (((n / 2 ^ 32 / 2 ^ 16:Nat):Int) ≥ 256)
   ·have c := of_decide_eq_false c
    exact fin _ 48 (by omega) (by omega) (by omega)
   ·have c := of_decide_eq_true c
    have e2 := jeY (n := n / 2 ^ 32 / 2 ^ 16) (s := 8) (by omega)
    exact fin _ 56 (by omega) (by omega) (by omega)

abbrev jrj:Con := ⟨jp4,jp5,fun x => jlE x,fun x => jlD x⟩
theorem jz6:jau Try.prog 87 jrj := okG jxU jp6 jz0 fun x hx => jaA (jz1 x _) (jz2 x _ (jz4 x hx) (jz5 x hx))
def jrk:Cons := [(87,[],jrj)]
theorem jz7:jag Try.prog jrk := cC jz6 <| jag.nil
def jlF (p0:Int) (K:Int→Prop):Prop := (((zz0≤p0) ∧(p0 < 18446744073709551616)) ∧(K (IntKind.i64.wrap ((64:Int) - (((v_ln p0.toNat):Nat):Int)))))
theorem jz8 (p0:Int) (K:Int→Prop):tfn jh4 jxo jrk jpv jpw p0 K = jlF p0 K := by kernel_rfl
def jiw (p0:Int):Int := (IntKind.i64.wrap ((64:Int) - (((v_ln p0.toNat):Nat):Int)))
abbrev jlG (p0:Int):List Prop := [(((0:Int)≤p0)∧(p0 < 18446744073709551616))]
theorem jz9 (p0:Int) (K:Int→Prop) (hp:∀ p∈jlG p0,p) (h:K (jiw p0)):jlF p0 K := by
 unfold jlF
 unfold jiw at h
 obtain ⟨hp0,_⟩ := jah hp
 exact ⟨(hp0),h⟩
abbrev jlH (p0:Int):Int := (64 - v_ln p0.toNat:Int)
abbrev jlI (p0:Int):List Prop := [0≤p0∧p0 < 18446744073709551616]
theorem jAa (p0:Int) (hq:∀ p∈jlI p0,p):∀ p∈jlG p0,p := by
 obtain ⟨h1,_⟩ := jah hq
 simp only [jlG,fM]
 exact ⟨h1,by simp⟩
theorem jAb (p0:Int) (hq:∀ p∈jlI p0,p):jiw p0 = jlH p0 := by
 obtain ⟨h1,_⟩ := jah hq
 have hl:v_ln p0.toNat≤64 := by
  rcases Nat.eq_zero_or_pos p0.toNat with z | z
  ·rw [z]; decide
  ·obtain ⟨j,e,b,_⟩ := jgE (n := p0.toNat) (by omega)
   rcases Nat.lt_or_ge j 64 with g | g
   ·omega
   ·have := Nat.pow_le_pow_right (show 0 < 2 by decide) g
    omega
 unfold jiw jlH
 exact jar (by omega) (by omega)

abbrev jrl:Con := ⟨jpv,jpw,fun x => jlI x,fun x => jlH x⟩
theorem jAc:jau Try.prog 63 jrl := okG jxp jpx jz7 fun x hx => jaA (jz8 x _) (jz9 x _ (jAa x hx) (jAb x hx))
def C_Z2:Cons := [(63,[],jrl)]
theorem jAd:jag Try.prog C_Z2 := cC jAc <| jag.nil
abbrev jao (p2:Int) := ((64:Int) - (((v_ln p2.toNat):Nat):Int))
abbrev jee (y1:gG) := ((decide (y1.2 ≥ 4294967296))=(decide (y1.2 ≥ 4294967296)))
abbrev jef (y4:gG) := ((decide (y4.2 ≥ 4294967296))=(decide (y4.2 ≥ 4294967296)))
abbrev jeg (y7:gG) := ((decide (y7.2 ≥ 4294967296))=(decide (y7.2 ≥ 4294967296)))
def w_Z2 (p0:Int) (p1:Int) (p2:Int) (K:tQG→Prop):Prop := ((((p2 == zz0)=true) → False) ∧(((p2 == zz0)=false) →((((decide (p2≤p0))=true) → False) ∧(((decide (p2≤p0))=false) →((((p0 == zz0)=true) →((p2 ≠ zz0) ∧((p2 ≠ zz0) ∧(K ((IntKind.wrap .u64 (Int.tdiv p1 p2)),(Int.tmod p1 p2)))))) ∧(((p0 == zz0)=false) →(((zz0≤p2) ∧(p2 < 18446744073709551616)) ∧((zz0≤(IntKind.wrap .u64 (jao p2))) ∧((zz0≤(IntKind.wrap .u64 (jao p2))) ∧((zz0≤(IntKind.wrap .u64 ((64:Int) - (IntKind.wrap .u64 (jao p2))))) ∧((zz0≤(IntKind.wrap .u64 (jao p2))) ∧(((jab .u64 (jad .u64 p2 (IntKind.wrap .u64 (jao p2))) (32:Int)) ≠ zz0) ∧(∃ n0,(jaX (fun (y1:gG) k2 => ((((decide (y1.2 ≥ 4294967296))=false) →(jee y1)) ∧((((decide (y1.2 ≥ 4294967296))=false) →(jee y1)) ∧((((decide (y1.2 ≥ 4294967296))=false) →(jee y1)) ∧((((decide (y1.2 ≥ 4294967296))=false) →(jee y1)) ∧((((decide (y1.2 ≥ 4294967296))=false) →(jee y1)) ∧((((decide (y1.2 ≥ 4294967296))=false) →(jee y1)) ∧((((decide (y1.2 ≥ 4294967296))=false) →(jee y1)) ∧((jee y1) ∧((((cond (decide (y1.2 ≥ 4294967296)) true (decide ((IntKind.wrap .u64 (y1.2 * (jam .u64 (jad .u64 p2 (IntKind.wrap .u64 (jao p2))) (4294967295:Int)))) > (IntKind.wrap .u64 ((IntKind.wrap .u64 ((4294967296:Int) * y1.1)) + (jab .u64 (jad .u64 p1 (IntKind.wrap .u64 (jao p2))) (32:Int)))))))=true) →((((decide ((IntKind.wrap .u64 (y1.1 + (jab .u64 (jad .u64 p2 (IntKind.wrap .u64 (jao p2))) (32:Int)))) ≥ 4294967296))=true) →(((jab .u64 (jad .u64 p2 (IntKind.wrap .u64 (jao p2))) (32:Int)) ≠ zz0) ∧(∃ n3,(jaX (fun (y4:gG) k5 => ((((decide (y4.2 ≥ 4294967296))=false) →(jef y4)) ∧((((decide (y4.2 ≥ 4294967296))=false) →(jef y4)) ∧((((decide (y4.2 ≥ 4294967296))=false) →(jef y4)) ∧((((decide (y4.2 ≥ 4294967296))=false) →(jef y4)) ∧((((decide (y4.2 ≥ 4294967296))=false) →(jef y4)) ∧((((decide (y4.2 ≥ 4294967296))=false) →(jef y4)) ∧((((decide (y4.2 ≥ 4294967296))=false) →(jef y4)) ∧((jef y4) ∧((((cond (decide (y4.2 ≥ 4294967296)) true (decide ((IntKind.wrap .u64 (y4.2 * (jam .u64 (jad .u64 p2 (IntKind.wrap .u64 (jao p2))) (4294967295:Int)))) > (IntKind.wrap .u64 ((IntKind.wrap .u64 ((4294967296:Int) * y4.1)) + (jam .u64 (jad .u64 p1 (IntKind.wrap .u64 (jao p2))) (4294967295:Int)))))))=true) →((((decide ((IntKind.wrap .u64 (y4.1 + (jab .u64 (jad .u64 p2 (IntKind.wrap .u64 (jao p2))) (32:Int)))) ≥ 4294967296))=true) →((zz0≤(IntKind.wrap .u64 (jao p2))) ∧(K ((IntKind.wrap .u64 ((IntKind.wrap .u64 ((IntKind.wrap .u64 (y1.2 - zz1)) * 4294967296)) + (IntKind.wrap .u64 (y4.2 - zz1)))),(jab .u64 (IntKind.wrap .u64 ((IntKind.wrap .u64 ((IntKind.wrap .u64 ((IntKind.wrap .u64 ((IntKind.wrap .u64 ((IntKind.wrap .u64 ((v_or .u64 (jad .u64 p0 (IntKind.wrap .u64 (jao p2))) (jab .u64 p1 (IntKind.wrap .u64 ((64:Int) - (IntKind.wrap .u64 (jao p2)))))) * 4294967296)) + (jab .u64 (jad .u64 p1 (IntKind.wrap .u64 (jao p2))) (32:Int)))) - (IntKind.wrap .u64 ((IntKind.wrap .u64 (y1.2 - zz1)) * (jad .u64 p2 (IntKind.wrap .u64 (jao p2))))))) * 4294967296)) + (jam .u64 (jad .u64 p1 (IntKind.wrap .u64 (jao p2))) (4294967295:Int)))) - (IntKind.wrap .u64 ((IntKind.wrap .u64 (y4.2 - zz1)) * (jad .u64 p2 (IntKind.wrap .u64 (jao p2))))))) (IntKind.wrap .u64 (jao p2))))))) ∧(((decide ((IntKind.wrap .u64 (y4.1 + (jab .u64 (jad .u64 p2 (IntKind.wrap .u64 (jao p2))) (32:Int)))) ≥ 4294967296))=false) →(k5 ((IntKind.wrap .u64 (y4.1 + (jab .u64 (jad .u64 p2 (IntKind.wrap .u64 (jao p2))) (32:Int)))),(IntKind.wrap .u64 (y4.2 - zz1))))))) ∧(((cond (decide (y4.2 ≥ 4294967296)) true (decide ((IntKind.wrap .u64 (y4.2 * (jam .u64 (jad .u64 p2 (IntKind.wrap .u64 (jao p2))) (4294967295:Int)))) > (IntKind.wrap .u64 ((IntKind.wrap .u64 ((4294967296:Int) * y4.1)) + (jam .u64 (jad .u64 p1 (IntKind.wrap .u64 (jao p2))) (4294967295:Int)))))))=false) →((zz0≤(IntKind.wrap .u64 (jao p2))) ∧(K ((IntKind.wrap .u64 ((IntKind.wrap .u64 ((IntKind.wrap .u64 (y1.2 - zz1)) * 4294967296)) + y4.2)),(jab .u64 (IntKind.wrap .u64 ((IntKind.wrap .u64 ((IntKind.wrap .u64 ((IntKind.wrap .u64 ((IntKind.wrap .u64 ((IntKind.wrap .u64 ((v_or .u64 (jad .u64 p0 (IntKind.wrap .u64 (jao p2))) (jab .u64 p1 (IntKind.wrap .u64 ((64:Int) - (IntKind.wrap .u64 (jao p2)))))) * 4294967296)) + (jab .u64 (jad .u64 p1 (IntKind.wrap .u64 (jao p2))) (32:Int)))) - (IntKind.wrap .u64 ((IntKind.wrap .u64 (y1.2 - zz1)) * (jad .u64 p2 (IntKind.wrap .u64 (jao p2))))))) * 4294967296)) + (jam .u64 (jad .u64 p1 (IntKind.wrap .u64 (jao p2))) (4294967295:Int)))) - (IntKind.wrap .u64 (y4.2 * (jad .u64 p2 (IntKind.wrap .u64 (jao p2))))))) (IntKind.wrap .u64 (jao p2))))))))))))))))) n3 ((IntKind.wrap .u64 ((IntKind.wrap .u64 ((IntKind.wrap .u64 ((IntKind.wrap .u64 ((v_or .u64 (jad .u64 p0 (IntKind.wrap .u64 (jao p2))) (jab .u64 p1 (IntKind.wrap .u64 ((64:Int) - (IntKind.wrap .u64 (jao p2)))))) * 4294967296)) + (jab .u64 (jad .u64 p1 (IntKind.wrap .u64 (jao p2))) (32:Int)))) - (IntKind.wrap .u64 ((IntKind.wrap .u64 (y1.2 - zz1)) * (jad .u64 p2 (IntKind.wrap .u64 (jao p2))))))) - (IntKind.wrap .u64 ((IntKind.wrap .u64 (Int.tdiv (IntKind.wrap .u64 ((IntKind.wrap .u64 ((IntKind.wrap .u64 ((v_or .u64 (jad .u64 p0 (IntKind.wrap .u64 (jao p2))) (jab .u64 p1 (IntKind.wrap .u64 ((64:Int) - (IntKind.wrap .u64 (jao p2)))))) * 4294967296)) + (jab .u64 (jad .u64 p1 (IntKind.wrap .u64 (jao p2))) (32:Int)))) - (IntKind.wrap .u64 ((IntKind.wrap .u64 (y1.2 - zz1)) * (jad .u64 p2 (IntKind.wrap .u64 (jao p2))))))) (jab .u64 (jad .u64 p2 (IntKind.wrap .u64 (jao p2))) (32:Int)))) * (jab .u64 (jad .u64 p2 (IntKind.wrap .u64 (jao p2))) (32:Int)))))),(IntKind.wrap .u64 (Int.tdiv (IntKind.wrap .u64 ((IntKind.wrap .u64 ((IntKind.wrap .u64 ((v_or .u64 (jad .u64 p0 (IntKind.wrap .u64 (jao p2))) (jab .u64 p1 (IntKind.wrap .u64 ((64:Int) - (IntKind.wrap .u64 (jao p2)))))) * 4294967296)) + (jab .u64 (jad .u64 p1 (IntKind.wrap .u64 (jao p2))) (32:Int)))) - (IntKind.wrap .u64 ((IntKind.wrap .u64 (y1.2 - zz1)) * (jad .u64 p2 (IntKind.wrap .u64 (jao p2))))))) (jab .u64 (jad .u64 p2 (IntKind.wrap .u64 (jao p2))) (32:Int))))))))) ∧(((decide ((IntKind.wrap .u64 (y1.1 + (jab .u64 (jad .u64 p2 (IntKind.wrap .u64 (jao p2))) (32:Int)))) ≥ 4294967296))=false) →(k2 ((IntKind.wrap .u64 (y1.1 + (jab .u64 (jad .u64 p2 (IntKind.wrap .u64 (jao p2))) (32:Int)))),(IntKind.wrap .u64 (y1.2 - zz1))))))) ∧(((cond (decide (y1.2 ≥ 4294967296)) true (decide ((IntKind.wrap .u64 (y1.2 * (jam .u64 (jad .u64 p2 (IntKind.wrap .u64 (jao p2))) (4294967295:Int)))) > (IntKind.wrap .u64 ((IntKind.wrap .u64 ((4294967296:Int) * y1.1)) + (jab .u64 (jad .u64 p1 (IntKind.wrap .u64 (jao p2))) (32:Int)))))))=false) →(((jab .u64 (jad .u64 p2 (IntKind.wrap .u64 (jao p2))) (32:Int)) ≠ zz0) ∧(∃ n6,(jaX (fun (y7:gG) k8 => ((((decide (y7.2 ≥ 4294967296))=false) →(jeg y7)) ∧((((decide (y7.2 ≥ 4294967296))=false) →(jeg y7)) ∧((((decide (y7.2 ≥ 4294967296))=false) →(jeg y7)) ∧((((decide (y7.2 ≥ 4294967296))=false) →(jeg y7)) ∧((((decide (y7.2 ≥ 4294967296))=false) →(jeg y7)) ∧((((decide (y7.2 ≥ 4294967296))=false) →(jeg y7)) ∧((((decide (y7.2 ≥ 4294967296))=false) →(jeg y7)) ∧((jeg y7) ∧((((cond (decide (y7.2 ≥ 4294967296)) true (decide ((IntKind.wrap .u64 (y7.2 * (jam .u64 (jad .u64 p2 (IntKind.wrap .u64 (jao p2))) (4294967295:Int)))) > (IntKind.wrap .u64 ((IntKind.wrap .u64 ((4294967296:Int) * y7.1)) + (jam .u64 (jad .u64 p1 (IntKind.wrap .u64 (jao p2))) (4294967295:Int)))))))=true) →((((decide ((IntKind.wrap .u64 (y7.1 + (jab .u64 (jad .u64 p2 (IntKind.wrap .u64 (jao p2))) (32:Int)))) ≥ 4294967296))=true) →((zz0≤(IntKind.wrap .u64 (jao p2))) ∧(K ((IntKind.wrap .u64 ((IntKind.wrap .u64 (y1.2 * 4294967296)) + (IntKind.wrap .u64 (y7.2 - zz1)))),(jab .u64 (IntKind.wrap .u64 ((IntKind.wrap .u64 ((IntKind.wrap .u64 ((IntKind.wrap .u64 ((IntKind.wrap .u64 ((IntKind.wrap .u64 ((v_or .u64 (jad .u64 p0 (IntKind.wrap .u64 (jao p2))) (jab .u64 p1 (IntKind.wrap .u64 ((64:Int) - (IntKind.wrap .u64 (jao p2)))))) * 4294967296)) + (jab .u64 (jad .u64 p1 (IntKind.wrap .u64 (jao p2))) (32:Int)))) - (IntKind.wrap .u64 (y1.2 * (jad .u64 p2 (IntKind.wrap .u64 (jao p2))))))) * 4294967296)) + (jam .u64 (jad .u64 p1 (IntKind.wrap .u64 (jao p2))) (4294967295:Int)))) - (IntKind.wrap .u64 ((IntKind.wrap .u64 (y7.2 - zz1)) * (jad .u64 p2 (IntKind.wrap .u64 (jao p2))))))) (IntKind.wrap .u64 (jao p2))))))) ∧(((decide ((IntKind.wrap .u64 (y7.1 + (jab .u64 (jad .u64 p2 (IntKind.wrap .u64 (jao p2))) (32:Int)))) ≥ 4294967296))=false) →(k8 ((IntKind.wrap .u64 (y7.1 + (jab .u64 (jad .u64 p2 (IntKind.wrap .u64 (jao p2))) (32:Int)))),(IntKind.wrap .u64 (y7.2 - zz1))))))) ∧(((cond (decide (y7.2 ≥ 4294967296)) true (decide ((IntKind.wrap .u64 (y7.2 * (jam .u64 (jad .u64 p2 (IntKind.wrap .u64 (jao p2))) (4294967295:Int)))) > (IntKind.wrap .u64 ((IntKind.wrap .u64 ((4294967296:Int) * y7.1)) + (jam .u64 (jad .u64 p1 (IntKind.wrap .u64 (jao p2))) (4294967295:Int)))))))=false) →((zz0≤(IntKind.wrap .u64 (jao p2))) ∧(K ((IntKind.wrap .u64 ((IntKind.wrap .u64 (y1.2 * 4294967296)) + y7.2)),(jab .u64 (IntKind.wrap .u64 ((IntKind.wrap .u64 ((IntKind.wrap .u64 ((IntKind.wrap .u64 ((IntKind.wrap .u64 ((IntKind.wrap .u64 ((v_or .u64 (jad .u64 p0 (IntKind.wrap .u64 (jao p2))) (jab .u64 p1 (IntKind.wrap .u64 ((64:Int) - (IntKind.wrap .u64 (jao p2)))))) * 4294967296)) + (jab .u64 (jad .u64 p1 (IntKind.wrap .u64 (jao p2))) (32:Int)))) - (IntKind.wrap .u64 (y1.2 * (jad .u64 p2 (IntKind.wrap .u64 (jao p2))))))) * 4294967296)) + (jam .u64 (jad .u64 p1 (IntKind.wrap .u64 (jao p2))) (4294967295:Int)))) - (IntKind.wrap .u64 (y7.2 * (jad .u64 p2 (IntKind.wrap .u64 (jao p2))))))) (IntKind.wrap .u64 (jao p2))))))))))))))))) n6 ((IntKind.wrap .u64 ((IntKind.wrap .u64 ((IntKind.wrap .u64 ((IntKind.wrap .u64 ((v_or .u64 (jad .u64 p0 (IntKind.wrap .u64 (jao p2))) (jab .u64 p1 (IntKind.wrap .u64 ((64:Int) - (IntKind.wrap .u64 (jao p2)))))) * 4294967296)) + (jab .u64 (jad .u64 p1 (IntKind.wrap .u64 (jao p2))) (32:Int)))) - (IntKind.wrap .u64 (y1.2 * (jad .u64 p2 (IntKind.wrap .u64 (jao p2))))))) - (IntKind.wrap .u64 ((IntKind.wrap .u64 (Int.tdiv (IntKind.wrap .u64 ((IntKind.wrap .u64 ((IntKind.wrap .u64 ((v_or .u64 (jad .u64 p0 (IntKind.wrap .u64 (jao p2))) (jab .u64 p1 (IntKind.wrap .u64 ((64:Int) - (IntKind.wrap .u64 (jao p2)))))) * 4294967296)) + (jab .u64 (jad .u64 p1 (IntKind.wrap .u64 (jao p2))) (32:Int)))) - (IntKind.wrap .u64 (y1.2 * (jad .u64 p2 (IntKind.wrap .u64 (jao p2))))))) (jab .u64 (jad .u64 p2 (IntKind.wrap .u64 (jao p2))) (32:Int)))) * (jab .u64 (jad .u64 p2 (IntKind.wrap .u64 (jao p2))) (32:Int)))))),(IntKind.wrap .u64 (Int.tdiv (IntKind.wrap .u64 ((IntKind.wrap .u64 ((IntKind.wrap .u64 ((v_or .u64 (jad .u64 p0 (IntKind.wrap .u64 (jao p2))) (jab .u64 p1 (IntKind.wrap .u64 ((64:Int) - (IntKind.wrap .u64 (jao p2)))))) * 4294967296)) + (jab .u64 (jad .u64 p1 (IntKind.wrap .u64 (jao p2))) (32:Int)))) - (IntKind.wrap .u64 (y1.2 * (jad .u64 p2 (IntKind.wrap .u64 (jao p2))))))) (jab .u64 (jad .u64 p2 (IntKind.wrap .u64 (jao p2))) (32:Int))))))))))))))))))) n0 ((IntKind.wrap .u64 ((v_or .u64 (jad .u64 p0 (IntKind.wrap .u64 (jao p2))) (jab .u64 p1 (IntKind.wrap .u64 ((64:Int) - (IntKind.wrap .u64 (jao p2)))))) - (IntKind.wrap .u64 ((IntKind.wrap .u64 (Int.tdiv (v_or .u64 (jad .u64 p0 (IntKind.wrap .u64 (jao p2))) (jab .u64 p1 (IntKind.wrap .u64 ((64:Int) - (IntKind.wrap .u64 (jao p2)))))) (jab .u64 (jad .u64 p2 (IntKind.wrap .u64 (jao p2))) (32:Int)))) * (jab .u64 (jad .u64 p2 (IntKind.wrap .u64 (jao p2))) (32:Int)))))),(IntKind.wrap .u64 (Int.tdiv (v_or .u64 (jad .u64 p0 (IntKind.wrap .u64 (jao p2))) (jab .u64 p1 (IntKind.wrap .u64 ((64:Int) - (IntKind.wrap .u64 (jao p2)))))) (jab .u64 (jad .u64 p2 (IntKind.wrap .u64 (jao p2))) (32:Int)))))))))))))))))))
theorem jAe (p0:Int) (p1:Int) (p2:Int) (K:tQG→Prop):tfn F_Z2 A_Z2 C_Z2 P_Z2 R_Z2 (p0,p1,p2) K = w_Z2 p0 p1 p2 K := by kernel_rfl
def jeZ (p0:Int) (p1:Int) (p2:Int) (y3:gG) (y6:gG):tQG ⊕ (tQG ⊕ tQG) := (cond (cond (decide (y6.2 ≥ 4294967296)) true (decide ((IntKind.wrap .u64 (y6.2 * (jam .u64 (jad .u64 p2 (IntKind.wrap .u64 ((64:Int) - (((v_ln p2.toNat):Nat):Int)))) (4294967295:Int)))) > (IntKind.wrap .u64 ((IntKind.wrap .u64 ((4294967296:Int) * y6.1)) + (jam .u64 (jad .u64 p1 (IntKind.wrap .u64 ((64:Int) - (((v_ln p2.toNat):Nat):Int)))) (4294967295:Int))))))) (cond (decide ((IntKind.wrap .u64 (y6.1 + (jab .u64 (jad .u64 p2 (IntKind.wrap .u64 ((64:Int) - (((v_ln p2.toNat):Nat):Int)))) (32:Int)))) ≥ 4294967296)) (Sum.inr (Sum.inr ((IntKind.wrap .u64 ((IntKind.wrap .u64 ((IntKind.wrap .u64 (y3.2 - 1)) * 4294967296)) + (IntKind.wrap .u64 (y6.2 - 1)))),(jab .u64 (IntKind.wrap .u64 ((IntKind.wrap .u64 ((IntKind.wrap .u64 ((IntKind.wrap .u64 ((IntKind.wrap .u64 ((IntKind.wrap .u64 ((v_or .u64 (jad .u64 p0 (IntKind.wrap .u64 ((64:Int) - (((v_ln p2.toNat):Nat):Int)))) (jab .u64 p1 (IntKind.wrap .u64 ((64:Int) - (IntKind.wrap .u64 ((64:Int) - (((v_ln p2.toNat):Nat):Int))))))) * 4294967296)) + (jab .u64 (jad .u64 p1 (IntKind.wrap .u64 ((64:Int) - (((v_ln p2.toNat):Nat):Int)))) (32:Int)))) - (IntKind.wrap .u64 ((IntKind.wrap .u64 (y3.2 - 1)) * (jad .u64 p2 (IntKind.wrap .u64 ((64:Int) - (((v_ln p2.toNat):Nat):Int)))))))) * 4294967296)) + (jam .u64 (jad .u64 p1 (IntKind.wrap .u64 ((64:Int) - (((v_ln p2.toNat):Nat):Int)))) (4294967295:Int)))) - (IntKind.wrap .u64 ((IntKind.wrap .u64 (y6.2 - 1)) * (jad .u64 p2 (IntKind.wrap .u64 ((64:Int) - (((v_ln p2.toNat):Nat):Int)))))))) (IntKind.wrap .u64 ((64:Int) - (((v_ln p2.toNat):Nat):Int))))))) (Sum.inl ((IntKind.wrap .u64 (y6.1 + (jab .u64 (jad .u64 p2 (IntKind.wrap .u64 ((64:Int) - (((v_ln p2.toNat):Nat):Int)))) (32:Int)))),(IntKind.wrap .u64 (y6.2 - 1))))) (Sum.inr (Sum.inr ((IntKind.wrap .u64 ((IntKind.wrap .u64 ((IntKind.wrap .u64 (y3.2 - 1)) * 4294967296)) + y6.2)),(jab .u64 (IntKind.wrap .u64 ((IntKind.wrap .u64 ((IntKind.wrap .u64 ((IntKind.wrap .u64 ((IntKind.wrap .u64 ((IntKind.wrap .u64 ((v_or .u64 (jad .u64 p0 (IntKind.wrap .u64 ((64:Int) - (((v_ln p2.toNat):Nat):Int)))) (jab .u64 p1 (IntKind.wrap .u64 ((64:Int) - (IntKind.wrap .u64 ((64:Int) - (((v_ln p2.toNat):Nat):Int))))))) * 4294967296)) + (jab .u64 (jad .u64 p1 (IntKind.wrap .u64 ((64:Int) - (((v_ln p2.toNat):Nat):Int)))) (32:Int)))) - (IntKind.wrap .u64 ((IntKind.wrap .u64 (y3.2 - 1)) * (jad .u64 p2 (IntKind.wrap .u64 ((64:Int) - (((v_ln p2.toNat):Nat):Int)))))))) * 4294967296)) + (jam .u64 (jad .u64 p1 (IntKind.wrap .u64 ((64:Int) - (((v_ln p2.toNat):Nat):Int)))) (4294967295:Int)))) - (IntKind.wrap .u64 (y6.2 * (jad .u64 p2 (IntKind.wrap .u64 ((64:Int) - (((v_ln p2.toNat):Nat):Int)))))))) (IntKind.wrap .u64 ((64:Int) - (((v_ln p2.toNat):Nat):Int))))))))
abbrev jix (_p0:Int) (p1:Int) (p2:Int) (_y3:gG) (y6:gG):List Prop := [(((cond (decide (y6.2 ≥ 4294967296)) true (decide ((IntKind.wrap .u64 (y6.2 * (jam .u64 (jad .u64 p2 (IntKind.wrap .u64 ((64:Int) - (((v_ln p2.toNat):Nat):Int)))) (4294967295:Int)))) > (IntKind.wrap .u64 ((IntKind.wrap .u64 ((4294967296:Int) * y6.1)) + (jam .u64 (jad .u64 p1 (IntKind.wrap .u64 ((64:Int) - (((v_ln p2.toNat):Nat):Int)))) (4294967295:Int)))))))=true)→(((decide ((IntKind.wrap .u64 (y6.1 + (jab .u64 (jad .u64 p2 (IntKind.wrap .u64 ((64:Int) - (((v_ln p2.toNat):Nat):Int)))) (32:Int)))) ≥ 4294967296))=true)→((0:Int)≤(IntKind.wrap .u64 ((64:Int) - (((v_ln p2.toNat):Nat):Int)))))),(((cond (decide (y6.2 ≥ 4294967296)) true (decide ((IntKind.wrap .u64 (y6.2 * (jam .u64 (jad .u64 p2 (IntKind.wrap .u64 ((64:Int) - (((v_ln p2.toNat):Nat):Int)))) (4294967295:Int)))) > (IntKind.wrap .u64 ((IntKind.wrap .u64 ((4294967296:Int) * y6.1)) + (jam .u64 (jad .u64 p1 (IntKind.wrap .u64 ((64:Int) - (((v_ln p2.toNat):Nat):Int)))) (4294967295:Int)))))))=false)→((0:Int)≤(IntKind.wrap .u64 ((64:Int) - (((v_ln p2.toNat):Nat):Int)))))]
def je0 (p0:Int) (p1:Int) (p2:Int) (y3:gG) (y9:gG):tQG ⊕ (tQG ⊕ tQG) := (cond (cond (decide (y9.2 ≥ 4294967296)) true (decide ((IntKind.wrap .u64 (y9.2 * (jam .u64 (jad .u64 p2 (IntKind.wrap .u64 ((64:Int) - (((v_ln p2.toNat):Nat):Int)))) (4294967295:Int)))) > (IntKind.wrap .u64 ((IntKind.wrap .u64 ((4294967296:Int) * y9.1)) + (jam .u64 (jad .u64 p1 (IntKind.wrap .u64 ((64:Int) - (((v_ln p2.toNat):Nat):Int)))) (4294967295:Int))))))) (cond (decide ((IntKind.wrap .u64 (y9.1 + (jab .u64 (jad .u64 p2 (IntKind.wrap .u64 ((64:Int) - (((v_ln p2.toNat):Nat):Int)))) (32:Int)))) ≥ 4294967296)) (Sum.inr (Sum.inr ((IntKind.wrap .u64 ((IntKind.wrap .u64 (y3.2 * 4294967296)) + (IntKind.wrap .u64 (y9.2 - 1)))),(jab .u64 (IntKind.wrap .u64 ((IntKind.wrap .u64 ((IntKind.wrap .u64 ((IntKind.wrap .u64 ((IntKind.wrap .u64 ((IntKind.wrap .u64 ((v_or .u64 (jad .u64 p0 (IntKind.wrap .u64 ((64:Int) - (((v_ln p2.toNat):Nat):Int)))) (jab .u64 p1 (IntKind.wrap .u64 ((64:Int) - (IntKind.wrap .u64 ((64:Int) - (((v_ln p2.toNat):Nat):Int))))))) * 4294967296)) + (jab .u64 (jad .u64 p1 (IntKind.wrap .u64 ((64:Int) - (((v_ln p2.toNat):Nat):Int)))) (32:Int)))) - (IntKind.wrap .u64 (y3.2 * (jad .u64 p2 (IntKind.wrap .u64 ((64:Int) - (((v_ln p2.toNat):Nat):Int)))))))) * 4294967296)) + (jam .u64 (jad .u64 p1 (IntKind.wrap .u64 ((64:Int) - (((v_ln p2.toNat):Nat):Int)))) (4294967295:Int)))) - (IntKind.wrap .u64 ((IntKind.wrap .u64 (y9.2 - 1)) * (jad .u64 p2 (IntKind.wrap .u64 ((64:Int) - (((v_ln p2.toNat):Nat):Int)))))))) (IntKind.wrap .u64 ((64:Int) - (((v_ln p2.toNat):Nat):Int))))))) (Sum.inl ((IntKind.wrap .u64 (y9.1 + (jab .u64 (jad .u64 p2 (IntKind.wrap .u64 ((64:Int) - (((v_ln p2.toNat):Nat):Int)))) (32:Int)))),(IntKind.wrap .u64 (y9.2 - 1))))) (Sum.inr (Sum.inr ((IntKind.wrap .u64 ((IntKind.wrap .u64 (y3.2 * 4294967296)) + y9.2)),(jab .u64 (IntKind.wrap .u64 ((IntKind.wrap .u64 ((IntKind.wrap .u64 ((IntKind.wrap .u64 ((IntKind.wrap .u64 ((IntKind.wrap .u64 ((v_or .u64 (jad .u64 p0 (IntKind.wrap .u64 ((64:Int) - (((v_ln p2.toNat):Nat):Int)))) (jab .u64 p1 (IntKind.wrap .u64 ((64:Int) - (IntKind.wrap .u64 ((64:Int) - (((v_ln p2.toNat):Nat):Int))))))) * 4294967296)) + (jab .u64 (jad .u64 p1 (IntKind.wrap .u64 ((64:Int) - (((v_ln p2.toNat):Nat):Int)))) (32:Int)))) - (IntKind.wrap .u64 (y3.2 * (jad .u64 p2 (IntKind.wrap .u64 ((64:Int) - (((v_ln p2.toNat):Nat):Int)))))))) * 4294967296)) + (jam .u64 (jad .u64 p1 (IntKind.wrap .u64 ((64:Int) - (((v_ln p2.toNat):Nat):Int)))) (4294967295:Int)))) - (IntKind.wrap .u64 (y9.2 * (jad .u64 p2 (IntKind.wrap .u64 ((64:Int) - (((v_ln p2.toNat):Nat):Int)))))))) (IntKind.wrap .u64 ((64:Int) - (((v_ln p2.toNat):Nat):Int))))))))
abbrev jiy (_p0:Int) (p1:Int) (p2:Int) (_y3:gG) (y9:gG):List Prop := [(((cond (decide (y9.2 ≥ 4294967296)) true (decide ((IntKind.wrap .u64 (y9.2 * (jam .u64 (jad .u64 p2 (IntKind.wrap .u64 ((64:Int) - (((v_ln p2.toNat):Nat):Int)))) (4294967295:Int)))) > (IntKind.wrap .u64 ((IntKind.wrap .u64 ((4294967296:Int) * y9.1)) + (jam .u64 (jad .u64 p1 (IntKind.wrap .u64 ((64:Int) - (((v_ln p2.toNat):Nat):Int)))) (4294967295:Int)))))))=true)→(((decide ((IntKind.wrap .u64 (y9.1 + (jab .u64 (jad .u64 p2 (IntKind.wrap .u64 ((64:Int) - (((v_ln p2.toNat):Nat):Int)))) (32:Int)))) ≥ 4294967296))=true)→((0:Int)≤(IntKind.wrap .u64 ((64:Int) - (((v_ln p2.toNat):Nat):Int)))))),(((cond (decide (y9.2 ≥ 4294967296)) true (decide ((IntKind.wrap .u64 (y9.2 * (jam .u64 (jad .u64 p2 (IntKind.wrap .u64 ((64:Int) - (((v_ln p2.toNat):Nat):Int)))) (4294967295:Int)))) > (IntKind.wrap .u64 ((IntKind.wrap .u64 ((4294967296:Int) * y9.1)) + (jam .u64 (jad .u64 p1 (IntKind.wrap .u64 ((64:Int) - (((v_ln p2.toNat):Nat):Int)))) (4294967295:Int)))))))=false)→((0:Int)≤(IntKind.wrap .u64 ((64:Int) - (((v_ln p2.toNat):Nat):Int)))))]
def jc0 (p0:Int) (p1:Int) (p2:Int) (y3:gG):tQG ⊕ tQG := (cond (cond (decide (y3.2 ≥ 4294967296)) true (decide ((IntKind.wrap .u64 (y3.2 * (jam .u64 (jad .u64 p2 (IntKind.wrap .u64 ((64:Int) - (((v_ln p2.toNat):Nat):Int)))) (4294967295:Int)))) > (IntKind.wrap .u64 ((IntKind.wrap .u64 ((4294967296:Int) * y3.1)) + (jab .u64 (jad .u64 p1 (IntKind.wrap .u64 ((64:Int) - (((v_ln p2.toNat):Nat):Int)))) (32:Int))))))) (cond (decide ((IntKind.wrap .u64 (y3.1 + (jab .u64 (jad .u64 p2 (IntKind.wrap .u64 ((64:Int) - (((v_ln p2.toNat):Nat):Int)))) (32:Int)))) ≥ 4294967296)) (lpv (Sum.inr (0,0)) (jeZ p0 p1 p2 y3) ((IntKind.wrap .u64 ((IntKind.wrap .u64 ((IntKind.wrap .u64 ((IntKind.wrap .u64 ((v_or .u64 (jad .u64 p0 (IntKind.wrap .u64 ((64:Int) - (((v_ln p2.toNat):Nat):Int)))) (jab .u64 p1 (IntKind.wrap .u64 ((64:Int) - (IntKind.wrap .u64 ((64:Int) - (((v_ln p2.toNat):Nat):Int))))))) * 4294967296)) + (jab .u64 (jad .u64 p1 (IntKind.wrap .u64 ((64:Int) - (((v_ln p2.toNat):Nat):Int)))) (32:Int)))) - (IntKind.wrap .u64 ((IntKind.wrap .u64 (y3.2 - 1)) * (jad .u64 p2 (IntKind.wrap .u64 ((64:Int) - (((v_ln p2.toNat):Nat):Int)))))))) - (IntKind.wrap .u64 ((IntKind.wrap .u64 (Int.tdiv (IntKind.wrap .u64 ((IntKind.wrap .u64 ((IntKind.wrap .u64 ((v_or .u64 (jad .u64 p0 (IntKind.wrap .u64 ((64:Int) - (((v_ln p2.toNat):Nat):Int)))) (jab .u64 p1 (IntKind.wrap .u64 ((64:Int) - (IntKind.wrap .u64 ((64:Int) - (((v_ln p2.toNat):Nat):Int))))))) * 4294967296)) + (jab .u64 (jad .u64 p1 (IntKind.wrap .u64 ((64:Int) - (((v_ln p2.toNat):Nat):Int)))) (32:Int)))) - (IntKind.wrap .u64 ((IntKind.wrap .u64 (y3.2 - 1)) * (jad .u64 p2 (IntKind.wrap .u64 ((64:Int) - (((v_ln p2.toNat):Nat):Int)))))))) (jab .u64 (jad .u64 p2 (IntKind.wrap .u64 ((64:Int) - (((v_ln p2.toNat):Nat):Int)))) (32:Int)))) * (jab .u64 (jad .u64 p2 (IntKind.wrap .u64 ((64:Int) - (((v_ln p2.toNat):Nat):Int)))) (32:Int)))))),(IntKind.wrap .u64 (Int.tdiv (IntKind.wrap .u64 ((IntKind.wrap .u64 ((IntKind.wrap .u64 ((v_or .u64 (jad .u64 p0 (IntKind.wrap .u64 ((64:Int) - (((v_ln p2.toNat):Nat):Int)))) (jab .u64 p1 (IntKind.wrap .u64 ((64:Int) - (IntKind.wrap .u64 ((64:Int) - (((v_ln p2.toNat):Nat):Int))))))) * 4294967296)) + (jab .u64 (jad .u64 p1 (IntKind.wrap .u64 ((64:Int) - (((v_ln p2.toNat):Nat):Int)))) (32:Int)))) - (IntKind.wrap .u64 ((IntKind.wrap .u64 (y3.2 - 1)) * (jad .u64 p2 (IntKind.wrap .u64 ((64:Int) - (((v_ln p2.toNat):Nat):Int)))))))) (jab .u64 (jad .u64 p2 (IntKind.wrap .u64 ((64:Int) - (((v_ln p2.toNat):Nat):Int)))) (32:Int)))))) (Sum.inl ((IntKind.wrap .u64 (y3.1 + (jab .u64 (jad .u64 p2 (IntKind.wrap .u64 ((64:Int) - (((v_ln p2.toNat):Nat):Int)))) (32:Int)))),(IntKind.wrap .u64 (y3.2 - 1))))) (lpv (Sum.inr (0,0)) (je0 p0 p1 p2 y3) ((IntKind.wrap .u64 ((IntKind.wrap .u64 ((IntKind.wrap .u64 ((IntKind.wrap .u64 ((v_or .u64 (jad .u64 p0 (IntKind.wrap .u64 ((64:Int) - (((v_ln p2.toNat):Nat):Int)))) (jab .u64 p1 (IntKind.wrap .u64 ((64:Int) - (IntKind.wrap .u64 ((64:Int) - (((v_ln p2.toNat):Nat):Int))))))) * 4294967296)) + (jab .u64 (jad .u64 p1 (IntKind.wrap .u64 ((64:Int) - (((v_ln p2.toNat):Nat):Int)))) (32:Int)))) - (IntKind.wrap .u64 (y3.2 * (jad .u64 p2 (IntKind.wrap .u64 ((64:Int) - (((v_ln p2.toNat):Nat):Int)))))))) - (IntKind.wrap .u64 ((IntKind.wrap .u64 (Int.tdiv (IntKind.wrap .u64 ((IntKind.wrap .u64 ((IntKind.wrap .u64 ((v_or .u64 (jad .u64 p0 (IntKind.wrap .u64 ((64:Int) - (((v_ln p2.toNat):Nat):Int)))) (jab .u64 p1 (IntKind.wrap .u64 ((64:Int) - (IntKind.wrap .u64 ((64:Int) - (((v_ln p2.toNat):Nat):Int))))))) * 4294967296)) + (jab .u64 (jad .u64 p1 (IntKind.wrap .u64 ((64:Int) - (((v_ln p2.toNat):Nat):Int)))) (32:Int)))) - (IntKind.wrap .u64 (y3.2 * (jad .u64 p2 (IntKind.wrap .u64 ((64:Int) - (((v_ln p2.toNat):Nat):Int)))))))) (jab .u64 (jad .u64 p2 (IntKind.wrap .u64 ((64:Int) - (((v_ln p2.toNat):Nat):Int)))) (32:Int)))) * (jab .u64 (jad .u64 p2 (IntKind.wrap .u64 ((64:Int) - (((v_ln p2.toNat):Nat):Int)))) (32:Int)))))),(IntKind.wrap .u64 (Int.tdiv (IntKind.wrap .u64 ((IntKind.wrap .u64 ((IntKind.wrap .u64 ((v_or .u64 (jad .u64 p0 (IntKind.wrap .u64 ((64:Int) - (((v_ln p2.toNat):Nat):Int)))) (jab .u64 p1 (IntKind.wrap .u64 ((64:Int) - (IntKind.wrap .u64 ((64:Int) - (((v_ln p2.toNat):Nat):Int))))))) * 4294967296)) + (jab .u64 (jad .u64 p1 (IntKind.wrap .u64 ((64:Int) - (((v_ln p2.toNat):Nat):Int)))) (32:Int)))) - (IntKind.wrap .u64 (y3.2 * (jad .u64 p2 (IntKind.wrap .u64 ((64:Int) - (((v_ln p2.toNat):Nat):Int)))))))) (jab .u64 (jad .u64 p2 (IntKind.wrap .u64 ((64:Int) - (((v_ln p2.toNat):Nat):Int)))) (32:Int)))))))
abbrev jdJ (p0:Int) (p1:Int) (p2:Int) (y3:gG):List Prop := [(((cond (decide (y3.2 ≥ 4294967296)) true (decide ((IntKind.wrap .u64 (y3.2 * (jam .u64 (jad .u64 p2 (IntKind.wrap .u64 ((64:Int) - (((v_ln p2.toNat):Nat):Int)))) (4294967295:Int)))) > (IntKind.wrap .u64 ((IntKind.wrap .u64 ((4294967296:Int) * y3.1)) + (jab .u64 (jad .u64 p1 (IntKind.wrap .u64 ((64:Int) - (((v_ln p2.toNat):Nat):Int)))) (32:Int)))))))=true)→(((decide ((IntKind.wrap .u64 (y3.1 + (jab .u64 (jad .u64 p2 (IntKind.wrap .u64 ((64:Int) - (((v_ln p2.toNat):Nat):Int)))) (32:Int)))) ≥ 4294967296))=true)→((jab .u64 (jad .u64 p2 (IntKind.wrap .u64 ((64:Int) - (((v_ln p2.toNat):Nat):Int)))) (32:Int)) ≠ (0:Int)))),(((cond (decide (y3.2 ≥ 4294967296)) true (decide ((IntKind.wrap .u64 (y3.2 * (jam .u64 (jad .u64 p2 (IntKind.wrap .u64 ((64:Int) - (((v_ln p2.toNat):Nat):Int)))) (4294967295:Int)))) > (IntKind.wrap .u64 ((IntKind.wrap .u64 ((4294967296:Int) * y3.1)) + (jab .u64 (jad .u64 p1 (IntKind.wrap .u64 ((64:Int) - (((v_ln p2.toNat):Nat):Int)))) (32:Int)))))))=true)→(((decide ((IntKind.wrap .u64 (y3.1 + (jab .u64 (jad .u64 p2 (IntKind.wrap .u64 ((64:Int) - (((v_ln p2.toNat):Nat):Int)))) (32:Int)))) ≥ 4294967296))=true)→(OkL (jeZ p0 p1 p2 y3) (jix p0 p1 p2 y3) ((IntKind.wrap .u64 ((IntKind.wrap .u64 ((IntKind.wrap .u64 ((IntKind.wrap .u64 ((v_or .u64 (jad .u64 p0 (IntKind.wrap .u64 ((64:Int) - (((v_ln p2.toNat):Nat):Int)))) (jab .u64 p1 (IntKind.wrap .u64 ((64:Int) - (IntKind.wrap .u64 ((64:Int) - (((v_ln p2.toNat):Nat):Int))))))) * 4294967296)) + (jab .u64 (jad .u64 p1 (IntKind.wrap .u64 ((64:Int) - (((v_ln p2.toNat):Nat):Int)))) (32:Int)))) - (IntKind.wrap .u64 ((IntKind.wrap .u64 (y3.2 - 1)) * (jad .u64 p2 (IntKind.wrap .u64 ((64:Int) - (((v_ln p2.toNat):Nat):Int)))))))) - (IntKind.wrap .u64 ((IntKind.wrap .u64 (Int.tdiv (IntKind.wrap .u64 ((IntKind.wrap .u64 ((IntKind.wrap .u64 ((v_or .u64 (jad .u64 p0 (IntKind.wrap .u64 ((64:Int) - (((v_ln p2.toNat):Nat):Int)))) (jab .u64 p1 (IntKind.wrap .u64 ((64:Int) - (IntKind.wrap .u64 ((64:Int) - (((v_ln p2.toNat):Nat):Int))))))) * 4294967296)) + (jab .u64 (jad .u64 p1 (IntKind.wrap .u64 ((64:Int) - (((v_ln p2.toNat):Nat):Int)))) (32:Int)))) - (IntKind.wrap .u64 ((IntKind.wrap .u64 (y3.2 - 1)) * (jad .u64 p2 (IntKind.wrap .u64 ((64:Int) - (((v_ln p2.toNat):Nat):Int)))))))) (jab .u64 (jad .u64 p2 (IntKind.wrap .u64 ((64:Int) - (((v_ln p2.toNat):Nat):Int)))) (32:Int)))) * (jab .u64 (jad .u64 p2 (IntKind.wrap .u64 ((64:Int) - (((v_ln p2.toNat):Nat):Int)))) (32:Int)))))),(IntKind.wrap .u64 (Int.tdiv (IntKind.wrap .u64 ((IntKind.wrap .u64 ((IntKind.wrap .u64 ((v_or .u64 (jad .u64 p0 (IntKind.wrap .u64 ((64:Int) - (((v_ln p2.toNat):Nat):Int)))) (jab .u64 p1 (IntKind.wrap .u64 ((64:Int) - (IntKind.wrap .u64 ((64:Int) - (((v_ln p2.toNat):Nat):Int))))))) * 4294967296)) + (jab .u64 (jad .u64 p1 (IntKind.wrap .u64 ((64:Int) - (((v_ln p2.toNat):Nat):Int)))) (32:Int)))) - (IntKind.wrap .u64 ((IntKind.wrap .u64 (y3.2 - 1)) * (jad .u64 p2 (IntKind.wrap .u64 ((64:Int) - (((v_ln p2.toNat):Nat):Int)))))))) (jab .u64 (jad .u64 p2 (IntKind.wrap .u64 ((64:Int) - (((v_ln p2.toNat):Nat):Int)))) (32:Int)))))))),(((cond (decide (y3.2 ≥ 4294967296)) true (decide ((IntKind.wrap .u64 (y3.2 * (jam .u64 (jad .u64 p2 (IntKind.wrap .u64 ((64:Int) - (((v_ln p2.toNat):Nat):Int)))) (4294967295:Int)))) > (IntKind.wrap .u64 ((IntKind.wrap .u64 ((4294967296:Int) * y3.1)) + (jab .u64 (jad .u64 p1 (IntKind.wrap .u64 ((64:Int) - (((v_ln p2.toNat):Nat):Int)))) (32:Int)))))))=false)→((jab .u64 (jad .u64 p2 (IntKind.wrap .u64 ((64:Int) - (((v_ln p2.toNat):Nat):Int)))) (32:Int)) ≠ (0:Int))),(((cond (decide (y3.2 ≥ 4294967296)) true (decide ((IntKind.wrap .u64 (y3.2 * (jam .u64 (jad .u64 p2 (IntKind.wrap .u64 ((64:Int) - (((v_ln p2.toNat):Nat):Int)))) (4294967295:Int)))) > (IntKind.wrap .u64 ((IntKind.wrap .u64 ((4294967296:Int) * y3.1)) + (jab .u64 (jad .u64 p1 (IntKind.wrap .u64 ((64:Int) - (((v_ln p2.toNat):Nat):Int)))) (32:Int)))))))=false)→(OkL (je0 p0 p1 p2 y3) (jiy p0 p1 p2 y3) ((IntKind.wrap .u64 ((IntKind.wrap .u64 ((IntKind.wrap .u64 ((IntKind.wrap .u64 ((v_or .u64 (jad .u64 p0 (IntKind.wrap .u64 ((64:Int) - (((v_ln p2.toNat):Nat):Int)))) (jab .u64 p1 (IntKind.wrap .u64 ((64:Int) - (IntKind.wrap .u64 ((64:Int) - (((v_ln p2.toNat):Nat):Int))))))) * 4294967296)) + (jab .u64 (jad .u64 p1 (IntKind.wrap .u64 ((64:Int) - (((v_ln p2.toNat):Nat):Int)))) (32:Int)))) - (IntKind.wrap .u64 (y3.2 * (jad .u64 p2 (IntKind.wrap .u64 ((64:Int) - (((v_ln p2.toNat):Nat):Int)))))))) - (IntKind.wrap .u64 ((IntKind.wrap .u64 (Int.tdiv (IntKind.wrap .u64 ((IntKind.wrap .u64 ((IntKind.wrap .u64 ((v_or .u64 (jad .u64 p0 (IntKind.wrap .u64 ((64:Int) - (((v_ln p2.toNat):Nat):Int)))) (jab .u64 p1 (IntKind.wrap .u64 ((64:Int) - (IntKind.wrap .u64 ((64:Int) - (((v_ln p2.toNat):Nat):Int))))))) * 4294967296)) + (jab .u64 (jad .u64 p1 (IntKind.wrap .u64 ((64:Int) - (((v_ln p2.toNat):Nat):Int)))) (32:Int)))) - (IntKind.wrap .u64 (y3.2 * (jad .u64 p2 (IntKind.wrap .u64 ((64:Int) - (((v_ln p2.toNat):Nat):Int)))))))) (jab .u64 (jad .u64 p2 (IntKind.wrap .u64 ((64:Int) - (((v_ln p2.toNat):Nat):Int)))) (32:Int)))) * (jab .u64 (jad .u64 p2 (IntKind.wrap .u64 ((64:Int) - (((v_ln p2.toNat):Nat):Int)))) (32:Int)))))),(IntKind.wrap .u64 (Int.tdiv (IntKind.wrap .u64 ((IntKind.wrap .u64 ((IntKind.wrap .u64 ((v_or .u64 (jad .u64 p0 (IntKind.wrap .u64 ((64:Int) - (((v_ln p2.toNat):Nat):Int)))) (jab .u64 p1 (IntKind.wrap .u64 ((64:Int) - (IntKind.wrap .u64 ((64:Int) - (((v_ln p2.toNat):Nat):Int))))))) * 4294967296)) + (jab .u64 (jad .u64 p1 (IntKind.wrap .u64 ((64:Int) - (((v_ln p2.toNat):Nat):Int)))) (32:Int)))) - (IntKind.wrap .u64 (y3.2 * (jad .u64 p2 (IntKind.wrap .u64 ((64:Int) - (((v_ln p2.toNat):Nat):Int)))))))) (jab .u64 (jad .u64 p2 (IntKind.wrap .u64 ((64:Int) - (((v_ln p2.toNat):Nat):Int)))) (32:Int)))))))]
def s_Z2 (p0:Int) (p1:Int) (p2:Int):tQG := (cond (p2 == 0) (0,0) (cond (decide (p2≤p0)) (0,0) (cond (p0 == 0) ((IntKind.wrap .u64 (Int.tdiv p1 p2)),(Int.tmod p1 p2)) (lpv (0,0) (jc0 p0 p1 p2) ((IntKind.wrap .u64 ((v_or .u64 (jad .u64 p0 (IntKind.wrap .u64 ((64:Int) - (((v_ln p2.toNat):Nat):Int)))) (jab .u64 p1 (IntKind.wrap .u64 ((64:Int) - (IntKind.wrap .u64 ((64:Int) - (((v_ln p2.toNat):Nat):Int))))))) - (IntKind.wrap .u64 ((IntKind.wrap .u64 (Int.tdiv (v_or .u64 (jad .u64 p0 (IntKind.wrap .u64 ((64:Int) - (((v_ln p2.toNat):Nat):Int)))) (jab .u64 p1 (IntKind.wrap .u64 ((64:Int) - (IntKind.wrap .u64 ((64:Int) - (((v_ln p2.toNat):Nat):Int))))))) (jab .u64 (jad .u64 p2 (IntKind.wrap .u64 ((64:Int) - (((v_ln p2.toNat):Nat):Int)))) (32:Int)))) * (jab .u64 (jad .u64 p2 (IntKind.wrap .u64 ((64:Int) - (((v_ln p2.toNat):Nat):Int)))) (32:Int)))))),(IntKind.wrap .u64 (Int.tdiv (v_or .u64 (jad .u64 p0 (IntKind.wrap .u64 ((64:Int) - (((v_ln p2.toNat):Nat):Int)))) (jab .u64 p1 (IntKind.wrap .u64 ((64:Int) - (IntKind.wrap .u64 ((64:Int) - (((v_ln p2.toNat):Nat):Int))))))) (jab .u64 (jad .u64 p2 (IntKind.wrap .u64 ((64:Int) - (((v_ln p2.toNat):Nat):Int)))) (32:Int)))))))))
abbrev jlJ (p0:Int) (p1:Int) (p2:Int):List Prop := [(((p2 == 0)=true)→False),(((p2 == 0)=false)→(((decide (p2≤p0))=true)→False)),(((p2 == 0)=false)→(((decide (p2≤p0))=false)→(((p0 == 0)=true)→(p2 ≠ (0:Int))))),(((p2 == 0)=false)→(((decide (p2≤p0))=false)→(((p0 == 0)=false)→(((0:Int)≤p2)∧(p2 < 18446744073709551616))))),(((p2 == 0)=false)→(((decide (p2≤p0))=false)→(((p0 == 0)=false)→((0:Int)≤(IntKind.wrap .u64 ((64:Int) - (((v_ln p2.toNat):Nat):Int))))))),(((p2 == 0)=false)→(((decide (p2≤p0))=false)→(((p0 == 0)=false)→((0:Int)≤(IntKind.wrap .u64 ((64:Int) - (IntKind.wrap .u64 ((64:Int) - (((v_ln p2.toNat):Nat):Int))))))))),(((p2 == 0)=false)→(((decide (p2≤p0))=false)→(((p0 == 0)=false)→((jab .u64 (jad .u64 p2 (IntKind.wrap .u64 ((64:Int) - (((v_ln p2.toNat):Nat):Int)))) (32:Int)) ≠ (0:Int))))),(((p2 == 0)=false)→(((decide (p2≤p0))=false)→(((p0 == 0)=false)→(OkL (jc0 p0 p1 p2) (jdJ p0 p1 p2) ((IntKind.wrap .u64 ((v_or .u64 (jad .u64 p0 (IntKind.wrap .u64 ((64:Int) - (((v_ln p2.toNat):Nat):Int)))) (jab .u64 p1 (IntKind.wrap .u64 ((64:Int) - (IntKind.wrap .u64 ((64:Int) - (((v_ln p2.toNat):Nat):Int))))))) - (IntKind.wrap .u64 ((IntKind.wrap .u64 (Int.tdiv (v_or .u64 (jad .u64 p0 (IntKind.wrap .u64 ((64:Int) - (((v_ln p2.toNat):Nat):Int)))) (jab .u64 p1 (IntKind.wrap .u64 ((64:Int) - (IntKind.wrap .u64 ((64:Int) - (((v_ln p2.toNat):Nat):Int))))))) (jab .u64 (jad .u64 p2 (IntKind.wrap .u64 ((64:Int) - (((v_ln p2.toNat):Nat):Int)))) (32:Int)))) * (jab .u64 (jad .u64 p2 (IntKind.wrap .u64 ((64:Int) - (((v_ln p2.toNat):Nat):Int)))) (32:Int)))))),(IntKind.wrap .u64 (Int.tdiv (v_or .u64 (jad .u64 p0 (IntKind.wrap .u64 ((64:Int) - (((v_ln p2.toNat):Nat):Int)))) (jab .u64 p1 (IntKind.wrap .u64 ((64:Int) - (IntKind.wrap .u64 ((64:Int) - (((v_ln p2.toNat):Nat):Int))))))) (jab .u64 (jad .u64 p2 (IntKind.wrap .u64 ((64:Int) - (((v_ln p2.toNat):Nat):Int)))) (32:Int)))))))))]
theorem d_Z2 (p0:Int) (p1:Int) (p2:Int) (K:tQG→Prop) (hp:∀ p∈jlJ p0 p1 p2,p) (h:K (s_Z2 p0 p1 p2)):w_Z2 p0 p1 p2 K := by
 unfold w_Z2
 unfold s_Z2 at h
 obtain ⟨hp0,hp1,hp2,hp3,hp4,hp5,hp6,hp7,_⟩ := jah hp
 exact (br' h (fun e0 h => (hp0 e0).elim)
  (fun e0 h => (br' h (fun e1 h => (hp1 e0 e1).elim)
  (fun e1 h => (br' h (fun e2 h => ⟨(hp2 e0 e1 e2),(hp2 e0 e1 e2),h⟩)
  (fun e2 h => ⟨(hp3 e0 e1 e2),(hp4 e0 e1 e2),(hp4 e0 e1 e2),(hp5 e0 e1 e2),(hp4 e0 e1 e2),(hp6 e0 e1 e2),(ja5 (hp7 e0 e1 e2) h (fun y3 k3 hp h => by
 unfold jc0 at h; obtain ⟨hp0,hp1,hp2,hp3,_⟩ := jah hp
 exact ⟨rf,rf,rf,rf,rf,rf,rf,rfl,(br' h (fun e4 h => (br' h (fun e5 h => ⟨(hp0 e4 e5),(ja5 (hp1 e4 e5) h (fun y6 k6 hp h => by
 unfold jeZ at h; obtain ⟨hp0,hp1,_⟩ := jah hp
 exact ⟨rf,rf,rf,rf,rf,rf,rf,rfl,(br' h (fun e7 h => (br' h (fun e8 h => ⟨(hp0 e7 e8),h⟩)
  (fun e8 h => h)))
  (fun e7 h => ⟨(hp1 e7),h⟩))⟩))⟩)
  (fun e5 h => h)))
  (fun e4 h => ⟨(hp2 e4),(ja5 (hp3 e4) h (fun y9 k9 hp h => by
 unfold je0 at h; obtain ⟨hp0,hp1,_⟩ := jah hp
 exact ⟨rf,rf,rf,rf,rf,rf,rf,rfl,(br' h (fun e10 h => (br' h (fun e11 h => ⟨(hp0 e10 e11),h⟩)
  (fun e11 h => h)))
  (fun e10 h => ⟨(hp1 e10),h⟩))⟩))⟩))⟩))⟩))))))
/-- One digit of a quotient,to the base 2^32,out of a guess that is too great by at most two. -/
theorem jrm {y1 y0 Y u d q r:Nat} (hp:0 < Y) (hY:Y = y1 * 4294967296 + y0) (h:q * y1 + r = u):q * y0≤4294967296 * r + d ↔ q≤(u * 4294967296 + d) / Y := by
 rw [Nat.le_div_iff_mul_le hp]
 have e:q * Y = q * y1 * 4294967296 + q * y0 := by rw [hY,Nat.mul_add,Nat.mul_assoc]
 rw [e]
 generalize q * y1 = a at *
 generalize q * y0 = b at *
 omega
theorem jlK {Y u d:Nat} (bu:u < Y) (bd:d < 4294967296):(u * 4294967296 + d) / Y < 4294967296 := by
 rw [Nat.div_lt_iff_lt_mul (by omega)]
 have := Nat.mul_le_mul_left 4294967296 (show u + 1≤Y by omega)
 omega
theorem jrn {y1 y0 Y u d:Nat} (hY:Y = y1 * 4294967296 + y0) (b1:2147483648≤y1∧y1 < 4294967296) (b0:y0 < 4294967296) (bu:u < Y) (bd:d < 4294967296):(u * 4294967296 + d) / Y≤u / y1∧u / y1≤4294967297∧u / y1 * y1 + u % y1 = u∧u % y1 < 4294967296 := by
 have hm := Nat.mod_lt u (show 0 < y1 by omega)
 have hd := Nat.div_add_mod u y1
 refine ⟨?_,?_,by rw [Nat.mul_comm]; exact hd,by omega⟩
 ·rw [Nat.le_div_iff_mul_le (by omega)]
  have h1 := Nat.div_mul_le_self (u * 4294967296 + d) Y
  generalize (u * 4294967296 + d) / Y = q at *
  have e:q * Y = q * y1 * 4294967296 + q * y0 := by rw [hY,Nat.mul_add,Nat.mul_assoc]
  generalize q * y1 = a at *
  generalize q * y0 = b at *
  omega
 ·have:u / y1 < 4294967298 := by
   rw [Nat.div_lt_iff_lt_mul (by omega)]
   omega
  omega
/-- What a round asks: whether the guess is still too great. -/
structure v_dgi (y1 y0 Y u d r q:Nat):Prop where
 e:q * y1 + r = u
 r:r < 4294967296
 lo:(u * 4294967296 + d) / Y≤q
 hi:q≤4294967297
structure v_dgy (y1 y0 Y u d:Nat):Prop where
 y:Y = y1 * 4294967296 + y0
 b1:2147483648≤y1∧y1 < 4294967296
 b0:y0 < 4294967296
 u:u < Y
 d:d < 4294967296
theorem jgF {y1 y0 Y u d r q:Nat} (H:v_dgy y1 y0 Y u d) (I:v_dgi y1 y0 Y u d r q):cond (decide ((q:Int) ≥ 4294967296)) true (decide (IntKind.u64.wrap ((q:Int) * (y0:Int)) > IntKind.u64.wrap (IntKind.u64.wrap (4294967296 * (r:Int)) + (d:Int))))=decide ((u * 4294967296 + d) / Y < q) := by
 have hlt := jlK H.u H.d
 have hr := I.r
 have hd := H.d
 have hy := H.y
 have hb := H.b1
 cases c:decide ((q:Int) ≥ 4294967296)
 ·have c := of_decide_eq_false c
  have hiff := jrm (d := d) (show 0 < Y by omega) H.y I.e
  have hm := Nat.mul_lt_mul'' (show q < 4294967296 by omega) H.b0
  rw [cond_false,← Int.natCast_mul,jbk (n := ((q * y0:Nat):Int)) (by omega) (by omega),jbk (n := 4294967296 * (r:Int)) (by omega) (by omega),jbk (n := 4294967296 * (r:Int) + (d:Int)) (by omega) (by omega)]
  generalize q * y0 = a at *
  exact decide_eq_decide.2 (by omega)
 ·have c := of_decide_eq_true c
  rw [cond_true,decide_eq_true (show (u * 4294967296 + d) / Y < q by omega)]
theorem jgG {y1 y0 Y u d r q:Nat} (H:v_dgy y1 y0 Y u d) (I:v_dgi y1 y0 Y u d r q) (h:(u * 4294967296 + d) / Y < q):IntKind.u64.wrap ((r:Int) + (y1:Int))=((r + y1:Nat):Int)∧IntKind.u64.wrap ((q:Int) - 1)=((q - 1:Nat):Int)∧(q - 1) * y1 + (r + y1)=u∧(4294967296≤r + y1→q - 1 = (u * 4294967296 + d) / Y) := by
 have hr := I.r
 have hb := H.b1
 have hy := H.y
 have hq := I.hi
 have hy0 := H.b0
 have hq1:0 < q := Nat.lt_of_le_of_lt (Nat.zero_le _) h
 have e:(q - 1) * y1 + (r + y1)=u := by
  obtain ⟨k,rfl⟩ : ∃ k,q = k + 1 := ⟨q - 1,by omega⟩
  have := I.e
  rw [Nat.add_mul,Nat.one_mul] at this
  rw [Nat.add_sub_cancel]
  omega
 refine ⟨by rw [jbk (by omega) (by omega)]; omega,by rw [jbk (by omega) (by omega)]; omega,e,fun hg => ?_⟩
 have hiff := jrm (d := d) (show 0 < Y by omega) H.y e
 have hm := Nat.mul_le_mul (show q - 1≤4294967296 by omega) (show y0≤4294967295 by omega)
 have := hiff.1 (by omega)
 omega
/-- A word's rest. -/
theorem jgH {Y u d:Nat} (hu:u < Y) (hY:Y < 18446744073709551616) (_hd:d < 4294967296):IntKind.u64.wrap (IntKind.u64.wrap (IntKind.u64.wrap ((u:Int) * 4294967296) + (d:Int)) - IntKind.u64.wrap ((((u * 4294967296 + d) / Y:Nat):Int) * (Y:Int)))=(((u * 4294967296 + d) % Y:Nat):Int) := by
 have h := Nat.div_add_mod (u * 4294967296 + d) Y
 have hm := Nat.mod_lt (u * 4294967296 + d) (show 0 < Y by omega)
 rw [← Int.natCast_mul]
 rw [Nat.mul_comm Y] at h
 generalize (u * 4294967296 + d) / Y * Y = t at *
 generalize (u * 4294967296 + d) % Y = m at *
 rw [jfj,jfj,jfj,jfj]
 omega
/-- What a division by 2^64 comes to,digit by digit. -/
structure v_dv (p0 p1 p2:Int) (s y1 y0 Y u d1 d0:Nat):Prop where
 hs:IntKind.u64.wrap (64 - (v_ln p2.toNat:Int))=(s:Int)
 hr:IntKind.u64.wrap (64 - (s:Int))=((64 - s:Nat):Int)
 hY:jad .u64 p2 (s:Int)=(Y:Int)
 hy1:jab .u64 (Y:Int) 32 = (y1:Int)
 hy0:jam .u64 (Y:Int) 4294967295 = (y0:Int)
 hu:v_or .u64 (jad .u64 p0 (s:Int)) (jab .u64 p1 ((64 - s:Nat):Int))=(u:Int)
 hd1:jab .u64 (jad .u64 p1 (s:Int)) 32 = (d1:Int)
 hd0:jam .u64 (jad .u64 p1 (s:Int)) 4294967295 = (d0:Int)
 sle:s≤63
 Yl:Y < 18446744073709551616
 A:v_dgy y1 y0 Y u d1
 bd0:d0 < 4294967296
 e:(u * 4294967296 + d1) * 4294967296 + d0 = (p0 * 18446744073709551616 + p1).toNat * 2 ^ s
 eY:Y = p2.toNat * 2 ^ s
theorem v_dv.A2 {p0 p1 p2:Int} {s y1 y0 Y u d1 d0:Nat} (D:v_dv p0 p1 p2 s y1 y0 Y u d1 d0):v_dgy y1 y0 Y ((u * 4294967296 + d1) % Y) d0 :=
 ⟨D.A.y,D.A.b1,D.A.b0,Nat.mod_lt _ (by have := D.A.u; omega),D.bd0⟩
theorem jAf {a b n:Nat} (ha:a < 4294967296) (hb:b < 4294967296) (h:n = a * 4294967296 + b):IntKind.u64.wrap (IntKind.u64.wrap ((a:Int) * 4294967296) + (b:Int))=(n:Int) := by
 rw [jbk (n := (a:Int) * 4294967296) (by omega) (by omega),jbk (by omega) (by omega)]
 omega
theorem v_dv.out {p0 p1 p2:Int} {s y1 y0 Y u d1 d0:Nat} (D:v_dv p0 p1 p2 s y1 y0 Y u d1 d0) (hp:0≤p0∧0≤p1∧0≤p2) :
  (IntKind.u64.wrap (IntKind.u64.wrap ((((u * 4294967296 + d1) / Y:Nat):Int) * 4294967296) + ((((u * 4294967296 + d1) % Y * 4294967296 + d0) / Y:Nat):Int)),
   jab .u64 (IntKind.u64.wrap (IntKind.u64.wrap (IntKind.u64.wrap ((((u * 4294967296 + d1) % Y:Nat):Int) * 4294967296) + (d0:Int)) - IntKind.u64.wrap (((((u * 4294967296 + d1) % Y * 4294967296 + d0) / Y:Nat):Int) * (Y:Int)))) (s:Int))=((p0 * 18446744073709551616 + p1) / p2,(p0 * 18446744073709551616 + p1) % p2) := by
 have hYp:0 < Y := by have := D.A.u; omega
 have l1 := jlK D.A.u D.A.d
 have l2 := jlK D.A2.u D.bd0
 rw [jgH D.A2.u D.Yl D.bd0]
 have hp2:0 < p2.toNat := by
  rcases Nat.eq_zero_or_pos p2.toNat with z | z
  ·have := D.eY; rw [z,Nat.zero_mul] at this; omega
  ·exact z
 have key:(u * 4294967296 + d1) * 4294967296 + d0 = Y * ((u * 4294967296 + d1) / Y * 4294967296) + ((u * 4294967296 + d1) % Y * 4294967296 + d0) := by
  have := Nat.div_add_mod (u * 4294967296 + d1) Y
  conv => lhs; rw [← this]
  rw [Nat.add_mul,Nat.mul_assoc,Nat.add_assoc]
 have q:((u * 4294967296 + d1) * 4294967296 + d0) / Y = (u * 4294967296 + d1) / Y * 4294967296 + ((u * 4294967296 + d1) % Y * 4294967296 + d0) / Y := by
  rw [key,Nat.mul_add_div hYp]
 have r:((u * 4294967296 + d1) * 4294967296 + d0) % Y = ((u * 4294967296 + d1) % Y * 4294967296 + d0) % Y := by
  rw [key,Nat.mul_add_mod]
 rw [D.e] at q r
 have q2:(p0 * 18446744073709551616 + p1).toNat * 2 ^ s / Y = (p0 * 18446744073709551616 + p1).toNat / p2.toNat := by
  rw [D.eY,Nat.mul_div_mul_right _ _ (Nat.two_pow_pos s)]
 have r2:(p0 * 18446744073709551616 + p1).toNat * 2 ^ s % Y = (p0 * 18446744073709551616 + p1).toNat % p2.toNat * 2 ^ s := by
  rw [D.eY,Nat.mul_mod_mul_right]
 rw [q2] at q
 rw [r2] at r
 have hN:((p0 * 18446744073709551616 + p1).toNat:Int)=p0 * 18446744073709551616 + p1 := by omega
 have hP:(p2.toNat:Int)=p2 := by omega
 rw [← r,jb0 _ s (by have := D.sle; omega),Nat.mul_div_cancel _ (Nat.two_pow_pos s)]
 rw [jAf l1 l2 q,Int.natCast_ediv,Int.natCast_emod,hN,hP]
theorem jiz {R y1:Nat} (h:R < 18446744073709551616):IntKind.u64.wrap ((R:Int) - IntKind.u64.wrap (((R / y1:Nat):Int) * (y1:Int)))=((R % y1:Nat):Int)∧IntKind.u64.wrap (Int.tdiv (R:Int) (y1:Int))=((R / y1:Nat):Int) := by
 have a := Nat.div_add_mod R y1
 have b := Nat.div_le_self R y1
 have e:Int.tdiv (R:Int) (y1:Int)=((R / y1:Nat):Int) := (Int.ofNat_tdiv R y1).symm
 have hz:(0:Int)≤((R / y1:Nat):Int) := Int.natCast_nonneg _
 refine ⟨?_,by rw [e,jbk hz (by omega)]⟩
 rw [← Int.natCast_mul,Nat.mul_comm]
 generalize y1 * (R / y1)=t at *
 rw [jbk (n := ((t:Nat):Int)) (by omega) (by omega),jbk (by omega) (by omega)]
 omega
section
variable {p0 p1 p2:Int} {s y1 y0 Y u d1 d0:Nat} (D:v_dv p0 p1 p2 s y1 y0 Y u d1 d0) (hp:0≤p0∧0≤p1∧0≤p2)
include D hp
omit hp in
theorem jro:(y1:Int) ≠ 0 := by have := D.A.b1; omega
omit hp in
theorem jrp (_k:Int):v_dgi y1 y0 Y ((u * 4294967296 + d1) % Y) d0 ((u * 4294967296 + d1) % Y % y1) ((u * 4294967296 + d1) % Y / y1) := by
 obtain ⟨a,b,c,d⟩ := jrn D.A2.y D.A2.b1 D.A2.b0 D.A2.u D.A2.d
 exact ⟨c,d,a,b⟩
theorem jAg (y3:gG) (h3:IntKind.u64.wrap (y3.2 - 1)=(((u * 4294967296 + d1) / Y:Nat):Int)):OkL (jeZ p0 p1 p2 y3) (jix p0 p1 p2 y3) ((((u * 4294967296 + d1) % Y % y1:Nat):Int),(((u * 4294967296 + d1) % Y / y1:Nat):Int))∧lpv (.inr (0,0)) (jeZ p0 p1 p2 y3) ((((u * 4294967296 + d1) % Y % y1:Nat):Int),(((u * 4294967296 + d1) % Y / y1:Nat):Int)) = .inr ((p0 * 18446744073709551616 + p1) / p2,(p0 * 18446744073709551616 + p1) % p2) := by
 have I0 := jrp D 0
 have out := D.out hp
 have hrest := jgH D.A.u D.Yl D.A.d
 refine @jf6 tQG (tQG ⊕ tQG) (.inr (0,0)) (jeZ p0 p1 p2 y3) (jix p0 p1 p2 y3) (fun (y:gG) => ∃ r q:Nat,y = ((r:Int),(q:Int))∧v_dgi y1 y0 Y ((u * 4294967296 + d1) % Y) d0 r q) (fun (y:gG) => y.2.toNat) (fun _ => .inr ((p0 * 18446744073709551616 + p1) / p2,(p0 * 18446744073709551616 + p1) % p2)) ?_ _ ⟨_,_,rfl,I0⟩ (by have := I0.hi; unfold fuel; simp only [Int.toNat_natCast]; omega)
 rintro ⟨r',q'⟩ ⟨r,q,e,I⟩
 cases e
 simp only [jix,jeZ,fM,D.hs,D.hr,D.hY,D.hy1,D.hy0,D.hu,D.hd1,D.hd0,h3,hrest,jgF D.A2 I]
 refine ⟨⟨fun _ _ => (by omega),fun _ => (by omega),fun p hp => by cases hp⟩,?_⟩
 cases c:decide (((u * 4294967296 + d1) % Y * 4294967296 + d0) / Y < q)
 ·have c := of_decide_eq_false c
  obtain rfl:q = ((u * 4294967296 + d1) % Y * 4294967296 + d0) / Y := by have := I.lo; omega
  simp only [cond_false]
  rw [out]
 ·have c := of_decide_eq_true c
  have hq1:0 < q := Nat.lt_of_le_of_lt (Nat.zero_le _) c
  obtain ⟨n1,n2,n3,n4⟩ := jgG D.A2 I c
  simp only [cond_true,n1,n2]
  cases d:decide (((r + y1:Nat):Int) ≥ 4294967296)
  ·have d := of_decide_eq_false d
   have hi := I.hi
   simp only [cond_false,and_true]
   exact ⟨⟨_,_,rfl,⟨n3,by omega,by omega,by omega⟩⟩,by simp only [Int.toNat_natCast]; omega⟩
  ·have d := of_decide_eq_true d
   simp only [cond_true]
   rw [n4 (by omega),out]
theorem jAh (y3:gG) (h3:y3.2 = (((u * 4294967296 + d1) / Y:Nat):Int)):OkL (je0 p0 p1 p2 y3) (jiy p0 p1 p2 y3) ((((u * 4294967296 + d1) % Y % y1:Nat):Int),(((u * 4294967296 + d1) % Y / y1:Nat):Int))∧lpv (.inr (0,0)) (je0 p0 p1 p2 y3) ((((u * 4294967296 + d1) % Y % y1:Nat):Int),(((u * 4294967296 + d1) % Y / y1:Nat):Int)) = .inr ((p0 * 18446744073709551616 + p1) / p2,(p0 * 18446744073709551616 + p1) % p2) := by
 have I0 := jrp D 0
 have out := D.out hp
 have hrest := jgH D.A.u D.Yl D.A.d
 refine @jf6 tQG (tQG ⊕ tQG) (.inr (0,0)) (je0 p0 p1 p2 y3) (jiy p0 p1 p2 y3) (fun (y:gG) => ∃ r q:Nat,y = ((r:Int),(q:Int))∧v_dgi y1 y0 Y ((u * 4294967296 + d1) % Y) d0 r q) (fun (y:gG) => y.2.toNat) (fun _ => .inr ((p0 * 18446744073709551616 + p1) / p2,(p0 * 18446744073709551616 + p1) % p2)) ?_ _ ⟨_,_,rfl,I0⟩ (by have := I0.hi; unfold fuel; simp only [Int.toNat_natCast]; omega)
 rintro ⟨r',q'⟩ ⟨r,q,e,I⟩
 cases e
 simp only [jiy,je0,fM,D.hs,D.hr,D.hY,D.hy1,D.hy0,D.hu,D.hd1,D.hd0,h3,hrest,jgF D.A2 I]
 refine ⟨⟨fun _ _ => (by omega),fun _ => (by omega),fun p hp => by cases hp⟩,?_⟩
 cases c:decide (((u * 4294967296 + d1) % Y * 4294967296 + d0) / Y < q)
 ·have c := of_decide_eq_false c
  obtain rfl:q = ((u * 4294967296 + d1) % Y * 4294967296 + d0) / Y := by have := I.lo; omega
  simp only [cond_false]
  rw [out]
 ·have c := of_decide_eq_true c
  have hq1:0 < q := Nat.lt_of_le_of_lt (Nat.zero_le _) c
  obtain ⟨n1,n2,n3,n4⟩ := jgG D.A2 I c
  simp only [cond_true,n1,n2]
  cases d:decide (((r + y1:Nat):Int) ≥ 4294967296)
  ·have d := of_decide_eq_false d
   have hi := I.hi
   simp only [cond_false,and_true]
   exact ⟨⟨_,_,rfl,⟨n3,by omega,by omega,by omega⟩⟩,by simp only [Int.toNat_natCast]; omega⟩
  ·have d := of_decide_eq_true d
   simp only [cond_true]
   rw [n4 (by omega),out]
theorem jAi (r:Nat) (I:v_dgi y1 y0 Y u d1 r ((u * 4294967296 + d1) / Y)):(∀ p∈jdJ p0 p1 p2 ((r:Int),(((u * 4294967296 + d1) / Y:Nat):Int)),p)∧jc0 p0 p1 p2 ((r:Int),(((u * 4294967296 + d1) / Y:Nat):Int)) = .inr ((p0 * 18446744073709551616 + p1) / p2,(p0 * 18446744073709551616 + p1) % p2) := by
 have hrest := jgH D.A.u D.Yl D.A.d
 have hRl:(u * 4294967296 + d1) % Y < 18446744073709551616 := by have := D.A2.u; have := D.Yl; omega
 obtain ⟨t1,t2⟩ := jiz (y1 := y1) hRl
 have c:decide ((u * 4294967296 + d1) / Y < (u * 4294967296 + d1) / Y)=false := decide_eq_false (Nat.lt_irrefl _)
 have cc := jgF D.A I
 rw [c] at cc
 obtain ⟨l1,l2⟩ := jAh D hp ((r:Int),(((u * 4294967296 + d1) / Y:Nat):Int)) rfl
 have hy := jro D
 simp only [jdJ,jc0,fM,D.hs,D.hr,D.hY,D.hy1,D.hy0,D.hu,D.hd1,D.hd0,cc,hrest,t1,t2,l2,cond_false]
 exact ⟨⟨fun e => (by cases e),fun e => (by cases e),fun _ => hy,fun _ => l1,fun p hp => by cases hp⟩,trivial⟩
theorem jAj (r q:Nat) (I:v_dgi y1 y0 Y u d1 r q) (c2:(u * 4294967296 + d1) / Y < q) (d2:4294967296≤r + y1):(∀ p∈jdJ p0 p1 p2 ((r:Int),(q:Int)),p)∧jc0 p0 p1 p2 ((r:Int),(q:Int)) = .inr ((p0 * 18446744073709551616 + p1) / p2,(p0 * 18446744073709551616 + p1) % p2) := by
 have hrest := jgH D.A.u D.Yl D.A.d
 have hRl:(u * 4294967296 + d1) % Y < 18446744073709551616 := by have := D.A2.u; have := D.Yl; omega
 obtain ⟨t1,t2⟩ := jiz (y1 := y1) hRl
 obtain ⟨n1,n2,n3,n4⟩ := jgG D.A I c2
 have cc := jgF D.A I
 rw [decide_eq_true c2] at cc
 have hq := n4 d2
 have dd:decide (((r + y1:Nat):Int) ≥ 4294967296)=true := decide_eq_true (by omega)
 have n2' : IntKind.u64.wrap ((q:Int) - 1)=(((u * 4294967296 + d1) / Y:Nat):Int) := by rw [n2,hq]
 obtain ⟨l1,l2⟩ := jAg D hp ((r:Int),(q:Int)) n2'
 have hy := jro D
 simp only [jdJ,jc0,fM,D.hs,D.hr,D.hY,D.hy1,D.hy0,D.hu,D.hd1,D.hd0,cc,n1,n2',dd,hrest,t1,t2,l2,cond_true]
 exact ⟨⟨fun _ _ => hy,fun _ _ => l1,fun e => (by cases e),fun e => (by cases e),fun p hp => by cases hp⟩,trivial⟩
omit hp in
theorem jAk (r q:Nat) (I:v_dgi y1 y0 Y u d1 r q) (c2:(u * 4294967296 + d1) / Y < q) (d2:r + y1 < 4294967296):(∀ p∈jdJ p0 p1 p2 ((r:Int),(q:Int)),p)∧jc0 p0 p1 p2 ((r:Int),(q:Int)) = .inl (((r + y1:Nat):Int),((q - 1:Nat):Int)) := by
 obtain ⟨n1,n2,n3,n4⟩ := jgG D.A I c2
 have cc := jgF D.A I
 rw [decide_eq_true c2] at cc
 have dd:decide (((r + y1:Nat):Int) ≥ 4294967296)=false := decide_eq_false (by omega)
 simp only [jdJ,jc0,fM,D.hs,D.hr,D.hY,D.hy1,D.hy0,D.hu,D.hd1,D.hd0,cc,n1,n2,dd,cond_true,cond_false]
 exact ⟨⟨fun _ e => (by cases e),fun _ e => (by cases e),fun e => (by cases e),fun e => (by cases e),fun p hp => by cases hp⟩,trivial⟩
theorem jrq:OkL (jc0 p0 p1 p2) (jdJ p0 p1 p2) (((u % y1:Nat):Int),((u / y1:Nat):Int))∧lpv (0,0) (jc0 p0 p1 p2) (((u % y1:Nat):Int),((u / y1:Nat):Int))=((p0 * 18446744073709551616 + p1) / p2,(p0 * 18446744073709551616 + p1) % p2) := by
 obtain ⟨i1,i2,i3,i4⟩ := jrn D.A.y D.A.b1 D.A.b0 D.A.u D.A.d
 have a2 := jAi D hp
 have b2 := jAj D hp
 have e2 := jAk D
 refine @jf6 tQG tQG (0,0) (jc0 p0 p1 p2) (jdJ p0 p1 p2) (fun (y:gG) => ∃ r q:Nat,y = ((r:Int),(q:Int))∧v_dgi y1 y0 Y u d1 r q) (fun (y:gG) => y.2.toNat) (fun _ => ((p0 * 18446744073709551616 + p1) / p2,(p0 * 18446744073709551616 + p1) % p2)) ?_ _ ⟨_,_,rfl,⟨i3,i4,i1,i2⟩⟩ (by unfold fuel; simp only [Int.toNat_natCast]; omega)
 rintro ⟨r',q'⟩ ⟨r,q,e,I⟩
 cases e
 rcases Nat.lt_or_ge ((u * 4294967296 + d1) / Y) q with c | c
 ·have hq1:0 < q := Nat.lt_of_le_of_lt (Nat.zero_le _) c
  obtain ⟨n1,n2,n3,n4⟩ := jgG D.A I c
  rcases Nat.lt_or_ge (r + y1) 4294967296 with d | d
  ·obtain ⟨x1,x2⟩ := e2 r q I c d
   have hi := I.hi
   rw [x2]
   exact ⟨x1,⟨_,_,rfl,⟨n3,d,by omega,by omega⟩⟩,by simp only [Int.toNat_natCast]; omega,rfl⟩
  ·obtain ⟨x1,x2⟩ := b2 r q I c d
   rw [x2]
   exact ⟨x1,rfl⟩
 ·have hq:q = (u * 4294967296 + d1) / Y := Nat.le_antisymm c I.lo
  subst hq
  obtain ⟨x1,x2⟩ := a2 r I
  rw [x2]
  exact ⟨x1,rfl⟩
end
theorem u_or (a b:Nat) (ha:a < 18446744073709551616) (hb:b < 18446744073709551616):v_or .u64 (a:Int) (b:Int)=((a ||| b:Nat):Int) := by
 have e1:BitVec.ofInt 64 (a:Int)=BitVec.ofNat 64 a := BitVec.ofInt_natCast ..
 have e2:BitVec.ofInt 64 (b:Int)=BitVec.ofNat 64 b := BitVec.ofInt_natCast ..
 show IntKind.u64.wrap (((BitVec.ofInt 64 (a:Int) ||| BitVec.ofInt 64 (b:Int)).toNat:Nat):Int)=_
 rw [e1,e2,BitVec.toNat_or,BitVec.toNat_ofNat,BitVec.toNat_ofNat,Nat.mod_eq_of_lt (by simpa using ha),Nat.mod_eq_of_lt (by simpa using hb)]
 have:a ||| b < 2 ^ 64 := Nat.or_lt_two_pow (by simpa using ha) (by simpa using hb)
 rw [jbk (by omega) (by omega)]
theorem jlL (n k:Nat) (hk:k≤64):jad .u64 (n:Int) (k:Int)=((n * 2 ^ k % 18446744073709551616:Nat):Int) := by
 unfold jad
 rw [show min (Int.toNat (k:Int)) (IntKind.bits .u64)=k by rw [show IntKind.bits .u64 = 64 from rfl]; omega,jfj,Int.natCast_emod,Int.natCast_mul,Int.natCast_pow]; rfl
theorem jAl {n m y A S T:Nat} (b1:A≤y) (b2:y < 2 * A) (hA:A * S = 9223372036854775808) (hT:T * S = 18446744073709551616) (hS:0 < S) (hT0:0 < T) (h1:n < y) (h2:m < 18446744073709551616):(9223372036854775808≤y * S∧y * S < 18446744073709551616)∧n * S + S≤y * S∧m / T < S∧m * S = m / T * 18446744073709551616 + m * S % 18446744073709551616 := by
 have a1 := Nat.mul_le_mul_right S b1
 have a2 := (Nat.mul_lt_mul_right hS).2 b2
 rw [Nat.mul_assoc] at a2
 have a3 := Nat.mul_le_mul_right S (show n + 1≤y by omega)
 rw [Nat.add_mul,Nat.one_mul] at a3
 have a4:m / T < S := by
  rw [Nat.div_lt_iff_lt_mul hT0,Nat.mul_comm]
  omega
 have a5 := Nat.div_add_mod (m * S) (T * S)
 rw [Nat.mul_div_mul_right _ _ hS,hT] at a5
 exact ⟨by omega,a3,a4,by omega⟩
theorem jAm {ns mt ms l:Nat} (hl:ms = mt * 18446744073709551616 + l) (_h2:l < 18446744073709551616):((ns + mt) * 4294967296 + l / 4294967296) * 4294967296 + l % 4294967296 = ns * 18446744073709551616 + ms := by omega
theorem jAn {n r s:Nat} (h:r < 2 ^ s):n * 2 ^ s ||| r = n * 2 ^ s + r := by rw [Nat.mul_comm,Nat.two_pow_add_eq_or_of_lt h]
theorem jAo (n m S L:Nat):(n * L + m) * S = n * S * L + m * S := by rw [Nat.add_mul,Nat.mul_right_comm]
theorem v_tn (n m:Nat):((n:Int) * 18446744073709551616 + (m:Int)).toNat = n * 18446744073709551616 + m := by omega
theorem jrr {n m y:Nat} (h1:n < y) (h2:m < 18446744073709551616) (h3:y < 18446744073709551616):∃ s y1 y0 Y u d1 d0:Nat,v_dv (n:Int) (m:Int) (y:Int) s y1 y0 Y u d1 d0 := by
 obtain ⟨k,e,b1,b2⟩ := jgE (n := y) (by omega)
 have hk:k≤63 := by
  rcases Nat.lt_or_ge 63 k with g | g
  ·have := Nat.pow_le_pow_right (show 0 < 2 by decide) (show 64≤k from g)
   omega
  ·exact g
 obtain ⟨s,hs⟩ : ∃ s,s = 63 - k := ⟨_,rfl⟩
 have hpow:2 ^ k * 2 ^ s = 9223372036854775808 := by
  have:2 ^ k * 2 ^ s = 2 ^ 63 := by rw [← Nat.pow_add]; congr 1; omega
  rw [this]
 have hp3:2 ^ (64 - s) * 2 ^ s = 18446744073709551616 := by
  have:2 ^ (64 - s) * 2 ^ s = 2 ^ 64 := by rw [← Nat.pow_add]; congr 1; omega
  rw [this]
 have hsp := Nat.two_pow_pos s
 obtain ⟨⟨Y1,Y2⟩,N1,M1,hml⟩ := jAl (n := n) (m := m) (y := y) b1 (by rw [Nat.pow_succ] at b2; omega) hpow hp3 hsp (Nat.two_pow_pos _) h1 h2
 have L1:m * 2 ^ s % 18446744073709551616 < 18446744073709551616 := Nat.mod_lt _ (by decide)
 have hor := jAn (n := n) M1
 have eN := v_tn n m
 have ee := jAm (ns := n * 2 ^ s) hml L1
 have eS := jAo n m (2 ^ s) 18446744073709551616
 have f1 := jlL y s (by omega)
 have f2 := jlL n s (by omega)
 have f3 := jb0 m (64 - s) (by omega)
 have f4 := jlL m s (by omega)
 have f5 := jhw _ Y2
 have f6 := jfk (y * 2 ^ s)
 have f7 := jhw _ L1
 have f8 := jfk (m * 2 ^ s % 18446744073709551616)
 rw [Nat.mod_eq_of_lt Y2] at f1
 clear hpow hp3 b1 b2
 generalize 2 ^ (64 - s)=T at *
 generalize hSS:2 ^ s = S at *
 have q1:n * S < 18446744073709551616 := by omega
 have q2:m / T < 18446744073709551616 := by omega
 have f9 := u_or (n * S) (m / T) q1 q2
 rw [Nat.mod_eq_of_lt q1] at f2
 refine ⟨s,y * S / 4294967296,y * S % 4294967296,y * S,n * S + m / T,m * S % 18446744073709551616 / 4294967296,m * S % 18446744073709551616 % 4294967296,?_⟩
 exact {
  hs := by rw [Int.toNat_natCast,e,jbk (by omega) (by omega)]; omega
  hr := by rw [jbk (by omega) (by omega)]; omega
  hY := f1
  hy1 := f6
  hy0 := f5
  hu := by rw [f2,f3,f9,hor]
  hd1 := by rw [f4]; exact f8
  hd0 := by rw [f4]; exact f7
  sle := by omega
  Yl := Y2
  A := ⟨by omega,by omega,by omega,by omega,by omega⟩
  bd0 := by omega
  e := by rw [eN,hSS,eS]; exact ee
  eY := by rw [Int.toNat_natCast,hSS] }
abbrev t_Z2 (p0:Int) (p1:Int) (p2:Int):Int×Int := ((p0 * 18446744073709551616 + p1) / p2,(p0 * 18446744073709551616 + p1) % p2)
abbrev jlM (p0:Int) (p1:Int) (p2:Int):List Prop := [0≤p0∧p0 < p2,0≤p1∧p1 < 18446744073709551616,p2 < 18446744073709551616]
theorem jAp (p0:Int) (p1:Int) (p2:Int) (hq:∀ p∈jlM p0 p1 p2,p):∀ p∈jlJ p0 p1 p2,p := by
 obtain ⟨h1,h2,h3,_⟩ := jah hq
 obtain ⟨n,rfl⟩ : ∃ n:Nat,p0 = n := ⟨p0.toNat,by omega⟩
 obtain ⟨m,rfl⟩ : ∃ m:Nat,p1 = m := ⟨p1.toNat,by omega⟩
 obtain ⟨y,rfl⟩ : ∃ y:Nat,p2 = y := ⟨p2.toNat,by omega⟩
 obtain ⟨s,y1,y0,Y,u,d1,d0,D⟩ := jrr (n := n) (m := m) (y := y) (by omega) (by omega) (by omega)
 have hul:u < 18446744073709551616 := by have := D.A.u; have := D.Yl; omega
 obtain ⟨t1,t2⟩ := jiz (y1 := y1) hul
 obtain ⟨l1,l2⟩ := jrq D (by omega)
 have hb := D.A.b1
 have z1:((y:Int) == 0)=false := beq_eq_false_iff_ne.2 (by omega)
 have z2:decide ((y:Int)≤(n:Int))=false := decide_eq_false (by omega)
 simp only [jlJ,fM,z1,z2,D.hs,D.hr,D.hY,D.hy1,D.hu,t1,t2]
 exact ⟨fun e => (by cases e),fun _ e => (by cases e),fun _ _ _ => (by omega),fun _ _ _ => (by omega),fun _ _ _ => (by omega),fun _ _ _ => (by omega),fun _ _ _ => (by omega),fun _ _ _ => l1,by simp⟩
theorem jAq (p0:Int) (p1:Int) (p2:Int) (hq:∀ p∈jlM p0 p1 p2,p):s_Z2 p0 p1 p2 = t_Z2 p0 p1 p2 := by
 obtain ⟨h1,h2,h3,_⟩ := jah hq
 obtain ⟨n,rfl⟩ : ∃ n:Nat,p0 = n := ⟨p0.toNat,by omega⟩
 obtain ⟨m,rfl⟩ : ∃ m:Nat,p1 = m := ⟨p1.toNat,by omega⟩
 obtain ⟨y,rfl⟩ : ∃ y:Nat,p2 = y := ⟨p2.toNat,by omega⟩
 obtain ⟨s,y1,y0,Y,u,d1,d0,D⟩ := jrr (n := n) (m := m) (y := y) (by omega) (by omega) (by omega)
 have hul:u < 18446744073709551616 := by have := D.A.u; have := D.Yl; omega
 obtain ⟨t1,t2⟩ := jiz (y1 := y1) hul
 obtain ⟨l1,l2⟩ := jrq D (by omega)
 have hb := D.A.b1
 have z1:((y:Int) == 0)=false := beq_eq_false_iff_ne.2 (by omega)
 have z2:decide ((y:Int)≤(n:Int))=false := decide_eq_false (by omega)
 unfold s_Z2 t_Z2
 simp only [z1,z2,D.hs,D.hr,D.hY,D.hy1,D.hu,t1,t2,l2,cond_false]
 rcases int0 (n:Int) with ⟨w1,_,w2⟩ | ⟨w1,_,w2⟩ <;> rw [w2]
 ·obtain rfl:n = 0 := by omega
  have b := Nat.div_le_self m y
  rw [cond_true,← Int.ofNat_tdiv,jbk (n := ((m / y:Nat):Int)) (Int.natCast_nonneg _) (by omega),← Int.ofNat_tmod]
  simp
 ·rfl

abbrev jlN:Con := ⟨P_Z2,R_Z2,fun x => jlM x.1 x.2.1 x.2.2,fun x => t_Z2 x.1 x.2.1 x.2.2⟩
theorem jrs:jau Try.prog 33 jlN := okG k_Z2 e_Z2 jAd fun x hx => jaA (jAe x.1 x.2.1 x.2.2 _) (d_Z2 x.1 x.2.1 x.2.2 _ (jAp x.1 x.2.1 x.2.2 hx) (jAq x.1 x.2.1 x.2.2 hx))
def C_Zr:Cons := []
theorem jAr:jag Try.prog C_Zr := jag.nil
def w_Zr (p0:gG) (K:tQG→Prop):Prop := ((zz0≤(jcI .u64 p0.2)) ∧((zz0≤1) ∧((zz0≤0) ∧((zz0≤1) ∧(K ((IntKind.wrap .u64 ((jcI .u64 p0.1) + ((((jcI .u64 p0.2) + 1) + 0) / (18446744073709551616:Int)))),((((jcI .u64 p0.2) + 1) + 0) % (18446744073709551616:Int))))))))
theorem jAs (p0:gG) (K:tQG→Prop):tfn F_Zr A_Zr C_Zr P_Zr R_Zr p0 K = w_Zr p0 K := by kernel_rfl
def s_Zr (p0:gG):tQG := ((IntKind.wrap .u64 ((jcI .u64 p0.1) + ((((jcI .u64 p0.2) + 1) + 0) / (18446744073709551616:Int)))),((((jcI .u64 p0.2) + 1) + 0) % (18446744073709551616:Int)))
abbrev jlO (p0:gG):List Prop := [((0:Int)≤(jcI .u64 p0.2))]
theorem d_Zr (p0:gG) (K:tQG→Prop) (hp:∀ p∈jlO p0,p) (h:K (s_Zr p0)):w_Zr p0 K := by
 unfold w_Zr
 unfold s_Zr at h
 obtain ⟨hp0,_⟩ := jah hp
 exact ⟨(hp0),(od rfl),(od rfl),(od rfl),h⟩
/-- Numbers modulo 2^128 as pairs of words. -/
def v_w (n:Int):Int×Int := (n / 18446744073709551616 % 18446744073709551616,n % 18446744073709551616)
def v_wv (p:gG):Int := p.1 * 18446744073709551616 + p.2
structure v_wu (p:gG):Prop where
 h:0≤p.1∧p.1 < 18446744073709551616
 l:0≤p.2∧p.2 < 18446744073709551616
theorem jeh (n:Int):v_wu (v_w n) := ⟨by unfold v_w; simp only; omega,by unfold v_w; simp only; omega⟩
theorem je1 (n:Int):v_wv (v_w n)=n % 340282366920938463463374607431768211456 := by unfold v_wv v_w; simp only; omega
theorem jiA {m n:Int} (h:m % 340282366920938463463374607431768211456 = n % 340282366920938463463374607431768211456):v_w m = v_w n := by
 unfold v_w
 rw [pJ]
 omega
theorem jAt {p:Int×Int} (h:v_wu p):v_w (v_wv p)=p := by
 have a := h.h
 have b := h.l
 unfold v_w v_wv
 exact Prod.ext (by simp only; omega) (by simp only; omega)
theorem jlP {a:Int} (h:0≤a∧a < 18446744073709551616):jcI .u64 a = 18446744073709551615 - a := by
 obtain ⟨n,rfl⟩ : ∃ n:Nat,a = n := ⟨a.toNat,by omega⟩
 have e1:BitVec.ofInt 64 (n:Int)=BitVec.ofNat 64 n := BitVec.ofInt_natCast ..
 have e2:BitVec.ofInt 64 18446744073709551615 = BitVec.allOnes 64 := by decide
 show IntKind.u64.wrap (((BitVec.ofInt 64 18446744073709551615 ^^^ BitVec.ofInt 64 (n:Int)).toNat:Nat):Int)=_
 have hn:n < 2 ^ 64 := by omega
 rw [e1,e2,BitVec.allOnes_xor,BitVec.toNat_not,BitVec.toNat_ofNat,Nat.mod_eq_of_lt hn]
 rw [jbk (by omega) (by omega)]
 omega
abbrev t_Zr (p0:gG):Int×Int := v_w (-(v_wv p0))
abbrev jlQ (p0:gG):List Prop := [v_wu p0]
theorem jAu (p0:gG) (hq:∀ p∈jlQ p0,p):∀ p∈jlO p0,p := by
 obtain ⟨h1,_⟩ := jah hq
 have a := h1.l
 simp only [jlO,fM,jlP h1.l]
 exact ⟨by omega,by simp⟩
theorem jAv (p0:gG) (hq:∀ p∈jlQ p0,p):s_Zr p0 = t_Zr p0 := by
 obtain ⟨h1,_⟩ := jah hq
 have a := h1.l
 have b := h1.h
 unfold s_Zr t_Zr v_w v_wv
 rw [jlP h1.l,jlP h1.h,jfj]
 exact Prod.ext (by simp only; omega) (by simp only; omega)

abbrev jlR:Con := ⟨P_Zr,R_Zr,fun x => jlQ x,fun x => t_Zr x⟩
theorem jrt:jau Try.prog 62 jlR := okG k_Zr e_Zr jAr fun x hx => jaA (jAs x _) (d_Zr x _ (jAu x hx) (jAv x hx))
end Go.Proofs.Ytcdbaepeabefnaa
