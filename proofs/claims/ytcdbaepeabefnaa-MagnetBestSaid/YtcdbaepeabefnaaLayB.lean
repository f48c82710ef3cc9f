/- Layers of the walk: abstract values, operations, calls, loops, and what they do. No condition. -/
import Derived.Test.YtcdbaepeabefnaaTxW
import Derived.Lib.Mul64
namespace Go.Mx
def tyAt:List Ty→Nat→Ty
 | [],_ => .un
 | t :: _,0 => t
 | _ :: r,n + 1 => tyAt r n
end Go.Mx
namespace Go.Mx
theorem br' {α:Type} {b:Bool} {X Y:α} {K:α→Prop} {P Q:Prop} (h:K (cond b X Y)) (hP:b = true→K X→P) (hQ:b = false→K Y→Q):(b = true→P)∧(b = false→Q) :=
 ⟨fun e => hP e (by rw [e] at h; exact h),fun e => hQ e (by rw [e] at h; exact h)⟩
theorem jah {l:List Prop} (h:∀ p∈l,p):conj l True := jhV.2 ⟨h,trivial⟩
end Go.Mx
namespace Go.Mx
abbrev jbA {α:Type} (l:List α):Prop := (l.length:Int)≤9223372036854775806
theorem jf5 {α:Type} {l:List α} (n:Nat) (h:l.length = n) (hn:n≤1000000):jbA l := by unfold jbA; omega
end Go.Mx
namespace Go.Mx
end Go.Mx
namespace Go.Mx
variable [Laid]
inductive Tf (F:TFn) (A:Nat→Ty) (C:Cons) (ps rs:List PSh) (x:(tyPs ps).den) (K:(tyPs rs).den→Prop):Prop
 | mk (h:tfn F A C ps rs x K):Tf F A C ps rs x K
omit [Laid] in
theorem jaA {F:TFn} {A:Nat→Ty} {C:Cons} {ps rs:List PSh} {x:(tyPs ps).den} {K:(tyPs rs).den→Prop} {p:Prop} (e:tfn F A C ps rs x K = p) (h:p):Tf F A C ps rs x K := .mk (by rw [e]; exact h)
theorem jFw {P:Program} {f:FuncId} {F:TFn} (hc:cFn P f = some F.erase) {A:Nat→Ty} {C:Cons} (hC:jag P C) {ps rs:List PSh} {x:(tyPs ps).den} {y:(tyPs rs).den} (h:Tf F A C ps rs x (fun z => z = y)):Ret P f (jax ps x) (valR rs y) := by
 cases h with | mk h => exact jHb hc hC h
end Go.Mx
namespace Go.Mx
theorem jdz {α:Type} {l:List α} {j:Nat} (d:α) (h:j < l.length):l.drop j = l.getD j d :: l.drop (j + 1) := by
 rw [List.drop_eq_getElem_cons h,List.getD,List.getElem?_eq_getElem h]; rfl
theorem jar {n:Int} (h1 : -9223372036854775808≤n) (h2:n≤9223372036854775807):IntKind.i64.wrap n = n := jGz h1 h2
theorem jfh {j:Nat} (h:(j:Int)≤9223372036854775806):IntKind.i64.wrap ((j:Int) + 1) = ((j + 1:Nat):Int) := by
 rw [jar (by omega) (by omega)]; simp
/-! Loops as functions: a round goes on (inl) or ends (inr). -/
def LK {σ ρ:Type} (k:σ→Prop) (Q:ρ→Prop):σ ⊕ ρ→Prop
 | .inl y => k y
 | .inr r => Q r
def runL {σ ρ:Type} (d:ρ) (st:σ→σ ⊕ ρ):Nat→σ→ρ
 | 0,_ => d
 | n + 1,x => match st x with
  | .inl y => runL d st n y
  | .inr r => r
def OkN {σ ρ:Type} (st:σ→σ ⊕ ρ) (sp:σ→List Prop):Nat→σ→Prop
 | 0,_ => False
 | n + 1,x => (∀ p∈sp x,p)∧match st x with
  | .inl y => OkN st sp n y
  | .inr _ => True
def fuel:Nat := 18446744073709551616
def lpv {σ ρ:Type} (d:ρ) (st:σ→σ ⊕ ρ) (x:σ):ρ := runL d st fuel x
def OkL {σ ρ:Type} (st:σ→σ ⊕ ρ) (sp:σ→List Prop) (x:σ):Prop := OkN st sp fuel x
theorem ja5 {σ ρ:Type} {d:ρ} {st:σ→σ ⊕ ρ} {sp:σ→List Prop} {body:σ→(σ→Prop)→Prop} {Q:ρ→Prop} {x:σ} (ho:OkL st sp x) (h:Q (lpv d st x)) (hb:∀ y k,(∀ p∈sp y,p)→LK k Q (st y)→body y k):∃ n,jaX body n x := by
 refine ⟨fuel,?_⟩
 unfold OkL at ho
 unfold lpv at h
 generalize fuel = n at ho h
 induction n generalizing x with
 | zero => exact ho.elim
 | succ n ih =>
  obtain ⟨h1,h2⟩ := ho
  refine hb x _ h1 ?_
  unfold runL at h
  cases hst:st x with
  | inl y => rw [hst] at h h2; exact ih h2 h
  | inr r => rw [hst] at h; exact h
theorem jt4 {σ ρ:Type} {d:ρ} {st:σ→σ ⊕ ρ} {sp:σ→List Prop} (I:σ→Prop) (μ:σ→Nat) (F:σ→ρ)
  (h:∀ x,I x→(∀ p∈sp x,p)∧match st x with | .inl y => I y∧μ y < μ x∧F y = F x | .inr r => F x = r):∀ (n:Nat) (x:σ),I x→μ x < n→OkN st sp n x∧runL d st n x = F x
 | 0,x,_,hn => absurd hn (Nat.not_lt_zero _)
 | n + 1,x,hi,hn => by
  obtain ⟨h1,h2⟩ := h x hi
  unfold OkN runL
  cases hst:st x with
  | inl y =>
   rw [hst] at h2
   obtain ⟨g1,g2,g3⟩ := h2
   obtain ⟨q1,q2⟩ := jt4 I μ F h n y g1 (by omega)
   exact ⟨⟨h1,q1⟩,by rw [← g3]; exact q2⟩
  | inr r => rw [hst] at h2; exact ⟨⟨h1,trivial⟩,h2.symm⟩
theorem jf6 {σ ρ:Type} {d:ρ} {st:σ→σ ⊕ ρ} {sp:σ→List Prop} (I:σ→Prop) (μ:σ→Nat) (F:σ→ρ)
  (h:∀ x,I x→(∀ p∈sp x,p)∧match st x with | .inl y => I y∧μ y < μ x∧F y = F x | .inr r => F x = r) {x:σ} (hx:I x) (hm:μ x < fuel):OkL st sp x∧lpv d st x = F x := jt4 I μ F h fuel x hx hm
theorem jFx {α τ σ ρ:Type} {dd:ρ} {st:σ→σ ⊕ ρ} {sp:σ→List Prop} (mk:Int→τ→σ) (l:List α) (d:α) (I:List α→τ→Prop) (F:List α→τ→ρ) (hl:jbA l)
  (hn:∀ t,I [] t→(∀ p∈sp (mk l.length t),p)∧st (mk l.length t) = .inr (F [] t))
  (hc:∀ (j:Nat) (t:τ),j < l.length→I (l.getD j d :: l.drop (j + 1)) t→(∀ p∈sp (mk j t),p) ∧
   ((∃ t',st (mk j t) = .inl (mk ((j + 1:Nat):Int) t')∧I (l.drop (j + 1)) t'∧F (l.drop (j + 1)) t' = F (l.getD j d :: l.drop (j + 1)) t) ∨ st (mk j t) = .inr (F (l.getD j d :: l.drop (j + 1)) t))) (t:τ) (h:I l t):OkL st sp (mk 0 t)∧lpv dd st (mk 0 t) = F l t := by
 have key:∀ (m j n:Nat) (t:τ),m + j = l.length→m < n→I (l.drop j) t→OkN st sp n (mk j t)∧runL dd st n (mk j t) = F (l.drop j) t := by
  intro m
  induction m with
  | zero =>
   intro j n t hj hn' hi
   have:j = l.length := by omega
   subst this
   rw [List.drop_length] at hi ⊢
   obtain ⟨g1,g2⟩ := hn t hi
   cases n with
   | zero => omega
   | succ n => unfold OkN runL; rw [g2]; exact ⟨⟨g1,trivial⟩,rfl⟩
  | succ m ih =>
   intro j n t hj hn' hi
   have hj' : j < l.length := by omega
   rw [jdz d hj'] at hi ⊢
   obtain ⟨g1,g2⟩ := hc j t hj' hi
   cases n with
   | zero => omega
   | succ n =>
    unfold OkN runL
    rcases g2 with ⟨t',e,i',f'⟩ | e
    ·rw [e]
     obtain ⟨q1,q2⟩ := ih (j + 1) n t' (by omega) (by omega) i'
     exact ⟨⟨g1,q1⟩,by rw [← f']; exact q2⟩
    ·rw [e]; exact ⟨⟨g1,trivial⟩,rfl⟩
 exact key l.length 0 fuel t (by omega) (by unfold jbA at hl; unfold fuel; omega) h
def rngV {α σ ρ:Type} (st:σ→α→σ ⊕ ρ) (fin:σ→ρ):List α→σ→ρ
 | [],y => fin y
 | z :: r,y => match st y z with
  | .inl y' => rngV st fin r y'
  | .inr v => v
def OkR {α σ ρ:Type} (st:σ→α→σ ⊕ ρ) (sp:σ→α→List Prop) (fp:σ→List Prop):List α→σ→Prop
 | [],y => ∀ p∈fp y,p
 | z :: r,y => (∀ p∈sp y z,p)∧match st y z with
  | .inl y' => OkR st sp fp r y'
  | .inr _ => True
theorem jt5 {α σ ρ:Type} {st:σ→α→σ ⊕ ρ} {sp:σ→α→List Prop} {fin:σ→ρ} {fp:σ→List Prop} {body:σ→α→(σ→Prop)→Prop} {kk:σ→Prop} {Q:ρ→Prop}:∀ {l:List α} {x:σ} (_:OkR st sp fp l x) (_:Q (rngV st fin l x)) (_:∀ y z k,(∀ p∈sp y z,p)→LK k Q (st y z)→body y z k)
  (_:∀ s,(∀ p∈fp s,p)→Q (fin s)→kk s),rngP body kk l x
 | [],x,ho,h,_,hk => hk x ho h
 | z :: r,x,ho,h,hb,hk => by
  obtain ⟨h1,h2⟩ := ho
  refine hb x z _ h1 ?_
  unfold rngV at h
  cases hst:st x z with
  | inl y => rw [hst] at h h2; exact jt5 (st := st) h2 h hb hk
  | inr v => rw [hst] at h; exact h
theorem jFy {α σ ρ:Type} {st:σ→α→σ ⊕ ρ} {sp:σ→α→List Prop} {fin:σ→ρ} {fp:σ→List Prop} {body:σ→α→(σ→Prop)→Prop} {kk:σ→Prop} {Q:ρ→Prop} {l:List α} {x:σ} (ho:OkR st sp fp l x) (h:Q (rngV st fin l x)) (hb:∀ y z k,(∀ p∈sp y z,p)→LK k Q (st y z)→body y z k)
  (hk:∀ s,(∀ p∈fp s,p)→Q (fin s)→kk s):RngP body kk l x := .mk (jt5 ho h hb hk)
theorem jt6 {α σ ρ:Type} {st:σ→α→σ ⊕ ρ} {sp:σ→α→List Prop} {fin:σ→ρ} {fp:σ→List Prop} (I:List α→σ→Prop) (F:List α→σ→ρ) (h0:∀ s,I [] s→(∀ p∈fp s,p)∧fin s = F [] s)
  (hc:∀ z r s,I (z :: r) s→(∀ p∈sp s z,p)∧match st s z with | .inl y => I r y∧F r y = F (z :: r) s | .inr v => v = F (z :: r) s):∀ (l:List α) (s:σ),I l s→OkR st sp fp l s∧rngV st fin l s = F l s
 | [],s,h => h0 s h
 | z :: r,s,h => by
  obtain ⟨h1,h2⟩ := hc z r s h
  unfold OkR rngV
  cases hst:st s z with
  | inl y =>
   rw [hst] at h2
   obtain ⟨q1,q2⟩ := jt6 I F h0 hc r y h2.1
   exact ⟨⟨h1,q1⟩,by rw [← h2.2]; exact q2⟩
  | inr v => rw [hst] at h2; exact ⟨⟨h1,trivial⟩,h2⟩
end Go.Mx
namespace Go.Mx
variable [Laid]
def shT:Ty→List Sh
 | .int k => [.int k]
 | .bool => [.bool]
 | .str => [.str]
 | .sl e => [.sl (shT e)]
 | .pr a b => shT a ++ shT b
 | .un => []
def Ty.ok:(t:Ty)→t.den→Prop
 | .int k,(n:Int) => k.min≤n∧n≤k.max
 | .bool,_ => True
 | .str,(s:ByteArray) => s.size≤maxLen
 | .sl e,(l:List e.den) => l.length≤maxLen∧∀ x∈l,e.ok x
 | .pr a b,x => a.ok x.1∧b.ok x.2
 | .un,_ => True

omit [Laid] in
theorem WtL.one {q:Sh} {vs:List Pv} (h:WtL [q] vs):∃ p,vs = [p]∧Wt q p := by
 obtain ⟨h1,h2⟩ := h
 match vs,h1 with
 | [p],_ => exact ⟨p,rfl,h2 0 q p rfl rfl⟩
omit [Laid] in
theorem WtL.split {a b:List Sh} {vs:List Pv} (h:WtL (a ++ b) vs):∃ x y,vs = x ++ y∧WtL a x∧WtL b y := by
 obtain ⟨h1,h2⟩ := h
 rw [List.length_append] at h1
 refine ⟨vs.take a.length,vs.drop a.length,(List.take_append_drop _ _).symm,⟨by rw [List.length_take]; omega,fun i s p hs hp => ?_⟩,⟨by rw [List.length_drop]; omega,fun i s p hs hp => ?_⟩⟩
 ·have hi := (List.getElem?_eq_some_iff.1 hs).1
  rw [List.getElem?_take,if_pos hi] at hp
  exact h2 i s p (by rw [List.getElem?_append,if_pos hi]; exact hs) hp
 ·rw [List.getElem?_drop] at hp
  refine h2 (a.length + i) s p ?_ hp
  rw [List.getElem?_append,if_neg (by omega),Nat.add_sub_cancel_left]; exact hs

omit [Laid] in
theorem jn1:∀ (t:Ty),(shT t).length = t.n
 | .int _ => rfl
 | .bool => rfl
 | .str => rfl
 | .sl _ => rfl
 | .pr a b => by simp only [shT,List.length_append,jn1 a,jn1 b,Ty.n]
 | .un => rfl
omit [Laid] in
theorem jht:∀ (t:Ty) (vs:List Pv),WtL (shT t) vs→∃ x:t.den,vs = t.enc x∧t.ok x
 | .int k,vs,h => by
  obtain ⟨p,rfl,hp⟩ := h.one
  cases hp with
  | int _ n hn =>
   simp only [Lit.wf,Bool.and_eq_true,decide_eq_true_eq] at hn
   exact ⟨n,rfl,hn⟩
 | .bool,vs,h => by
  obtain ⟨p,rfl,hp⟩ := h.one
  cases hp with
  | bool b => exact ⟨b,rfl,trivial⟩
 | .str,vs,h => by
  obtain ⟨p,rfl,hp⟩ := h.one
  cases hp with
  | str s hs => exact ⟨s,rfl,hs⟩
 | .sl e,vs,h => by
  obtain ⟨p,rfl,hp⟩ := h.one
  cases hp with
  | sl _ es h1 h2 h3 =>
   have key:∀ es:List (List Pv),(∀ x∈es,WtL (shT e) x)→∃ l:List e.den,es = l.map e.enc∧∀ x∈l,e.ok x := by
    intro es
    induction es with
    | nil => intro _; exact ⟨[],rfl,by simp⟩
    | cons x r ih =>
     intro h
     obtain ⟨y,hy,hok⟩ := jht e x (h x (by simp))
     obtain ⟨l,hl,hlo⟩ := ih (fun x hx => h x (by simp [hx]))
     refine ⟨y :: l,by rw [hy,hl]; rfl,fun z hz => ?_⟩
     rcases List.mem_cons.1 hz with rfl | hz
     ·exact hok
     ·exact hlo z hz
   obtain ⟨l,rfl,hl⟩ := key es (fun x hx => ⟨h1 x hx,h3 x hx⟩)
   refine ⟨l,?_,?_,hl⟩
   ·rw [jn1]; rfl
   ·simpa using h2
 | .pr a b,vs,h => by
  obtain ⟨x,y,rfl,hx,hy⟩ := h.split
  obtain ⟨u,rfl,hu⟩ := jht a x hx
  obtain ⟨v,rfl,hv⟩ := jht b y hy
  exact ⟨(u,v),rfl,hu,hv⟩
 | .un,vs,h => by
  have:vs = [] := List.length_eq_zero_iff.1 h.1
  subst this
  exact ⟨(),rfl,trivial⟩

def shP:PSh→Bool×List Sh
 | .one t => (false,shT t)
 | .agg t => (true,shT t)
 | _ => (false,[])
def okP:(p:PSh)→(tyP p).den→Prop
 | .one t,x => t.ok x
 | .agg t,x => t.ok x
 | _,_ => True
def okPs:(ps:List PSh)→(tyPs ps).den→Prop
 | [],_ => True
 | [p],x => okP p x
 | p :: q :: r,x => okP p x.1∧okPs (q :: r) x.2

omit [Laid] in
theorem jt7 {p:PSh} {v:V} (h:ArgV (shP p) v):∃ x,v = valP p x∧okP p x := by
 cases p with
 | one t =>
  obtain ⟨q,p,h1,h2,rfl⟩ := h
  have h1:shT t = [q] := h1
  obtain ⟨x,hx,hok⟩ := jht t [p] (by rw [h1]; exact ⟨rfl,fun i s u hs hu => by
   match i with
   | 0 => simp at hs hu; subst hs hu; exact h2
   | i + 1 => simp at hs⟩)
  exact ⟨x,by simp only [valP,← hx],hok⟩
 | agg t =>
  obtain ⟨vs,h1,rfl⟩ := h
  obtain ⟨x,rfl,hok⟩ := jht t vs h1
  exact ⟨x,rfl,hok⟩
 | ptr t => obtain ⟨q,p,h1,_⟩ := h; cases h1
 | fn f ts => obtain ⟨q,p,h1,_⟩ := h; cases h1

omit [Laid] in
theorem jt8:∀ (ps:List PSh) (us:List V),ArgsV (ps.map shP) us→∃ x,us = jax ps x∧okPs ps x
 | [],us,h => by cases h; exact ⟨(),rfl,trivial⟩
 | [p],us,h => by
  cases h with
  | cons h hs =>
   cases hs
   obtain ⟨x,rfl,hx⟩ := jt7 h
   exact ⟨x,rfl,hx⟩
 | p :: q :: r,us,h => by
  cases h with
  | cons h hs =>
   obtain ⟨x,rfl,hx⟩ := jt7 h
   obtain ⟨y,rfl,hy⟩ := jt8 (q :: r) _ hs
   exact ⟨(x,y),rfl,hx,hy⟩

theorem jFz {P:Program} {f:FuncId} (ps:List PSh) (h:∀ x,okPs ps x→Ret P f (jax ps x) (.p (.bool true))):∀ us,ArgsV (ps.map shP) us→Ret P f us (.p (.bool true)) := fun us hu => by
 obtain ⟨x,rfl,hx⟩ := jt8 ps us hu
 exact h x hx
end Go.Mx
namespace Go.Mx
variable [Laid]
def Sh.zero:Sh→Value
 | .int k => .int k 0
 | .bool => .bool false
 | .str => .string ByteArray.empty
 | .sl _ => .slice none 0 0
def jFA:Bool×List Sh→Value
 | (true,l) => .agg (l.map Sh.zero).toArray
 | (false,l) => ((l.map Sh.zero).head?).getD (.bool false)
def jFB (ps:List PSh):Array Value := (ps.map fun p => jFA (shP p)).toArray
def fnOf (P:Program) (f:FuncId):Func := (P.funcs[f]?).getD default
theorem jFC {P:Program} {f:FuncId} {c:Con} (h:jau P f c) (ht:∀ x,okPs c.ps x→(∀ p∈c.pre x,p)∧valR c.rs (c.fn x) = .p (.bool true)):∀ us,ArgsV (c.ps.map shP) us→Ret P f us (.p (.bool true)) :=
 jFz c.ps fun x hx => (ht x hx).2 ▸ h.2 x (ht x hx).1
end Go.Mx
namespace Go.Mx
theorem jn2 (n:Int):IntKind.i64.wrap n = (n + 9223372036854775808) % 18446744073709551616 - 9223372036854775808 := by
 simp only [IntKind.wrap,IntKind.bits,IntKind.signed]; simp; omega
theorem jjy (a b:Int):IntKind.i64.wrap (IntKind.i64.wrap a + b) = IntKind.i64.wrap (a + b) := by simp only [jn2]; omega
theorem jFD (a b:Int):IntKind.i64.wrap (a + IntKind.i64.wrap b) = IntKind.i64.wrap (a + b) := by simp only [jn2]; omega
theorem jFE (a b:Int):IntKind.i64.wrap (IntKind.i64.wrap a - b) = IntKind.i64.wrap (a - b) := by simp only [jn2]; omega
theorem jhu {x y a b:Int} (h1:0≤x) (h2:x≤a) (h3:0≤y) (h4:y≤b):0≤x * y∧x * y≤a * b := ⟨Int.mul_nonneg h1 h3,Int.mul_le_mul h2 h4 h3 (by omega)⟩
end Go.Mx
namespace Go.Mx
theorem jbn {x y a b:Int} (h1 : -a≤x) (h2:x≤a) (h3 : -b≤y) (h4:y≤b) : -(a * b)≤x * y∧x * y≤a * b := by
 rcases Int.le_total 0 x with hx | hx <;> rcases Int.le_total 0 y with hy | hy
 ·have := jhu hx h2 hy h4; omega
 ·have := jhu (y := -y) hx h2 (by omega) (show -y≤b by omega); rw [Int.mul_neg] at this; omega
 ·have := jhu (x := -x) (by omega) (show -x≤a by omega) hy h4; rw [Int.neg_mul] at this; omega
 ·have := jhu (x := -x) (y := -y) (by omega) (show -x≤a by omega) (by omega) (show -y≤b by omega); rw [Int.neg_mul,Int.mul_neg,Int.neg_neg] at this; omega

theorem jFF {a b:Int} (h : -9223372036854775807≤a∧a≤9223372036854775807):IntKind.i64.wrap (a.tdiv b) = a.tdiv b := by
 have h1:(a.tdiv b).natAbs≤a.natAbs := by
  rw [Int.natAbs_tdiv]; exact Nat.div_le_self _ _
 exact jar (by omega) (by omega)
end Go.Mx
namespace Go.Mx
theorem jFG {a b:Int} (hb:b ≠ 0):(a.tmod b).natAbs < b.natAbs := by
 rw [Int.natAbs_tmod]
 exact Nat.mod_lt _ (by omega)
theorem jt9 {n b q r:Int} (hb:0 < b) (h:n = b * q + r) (h0:0≤r) (h1:r < b):n / b = q := ((Int.ediv_emod_unique hb).2 ⟨by omega,h0,h1⟩).1
theorem jFH {n b:Int} (hn : -9223372036854775807≤n∧n≤9223372036854775807) (hb:0 < b):cond (decide (n.tmod b < 0)) (IntKind.i64.wrap (IntKind.i64.wrap (n.tdiv b) - 1)) (IntKind.i64.wrap (n.tdiv b)) = n / b := by
 have h1:(n.tdiv b).natAbs≤n.natAbs := by
  rw [Int.natAbs_tdiv]; exact Nat.div_le_self _ _
 have h2 := jFG (a := n) (b := b) (by omega)
 have h3 := Int.mul_tdiv_add_tmod n b
 rw [jFF hn]
 by_cases h:n.tmod b < 0
 ·rw [decide_eq_true h,cond_true,jar (by omega) (by omega)]
  exact (jt9 hb (show n = b * (n.tdiv b - 1) + (b + n.tmod b) by rw [Int.mul_sub]; omega) (by omega) (by omega)).symm
 ·rw [decide_eq_false h,cond_false]
  exact (jt9 hb (show n = b * n.tdiv b + n.tmod b by omega) (by omega) (by omega)).symm
end Go.Mx
namespace Go.Mx
theorem jFI {l:List Int} {j:Nat} (h:j < l.length):l.take (j + 1) = l.take j ++ [l.getD j 0] := by
 rw [List.take_add_one,List.getElem?_eq_getElem h,List.getD,List.getElem?_eq_getElem h]; rfl
end Go.Mx
namespace Go.Mx
def v_go {α τ ρ:Type} (f:Int→τ→α→τ ⊕ ρ) (e:τ→ρ):Int→τ→List α→ρ
 | _,t,[] => e t
 | i,t,x :: r => match f i t x with
  | .inl t' => v_go f e (i + 1) t' r
  | .inr v => v
theorem jua {α τ ρ:Type} {f:Int→τ→α→τ ⊕ ρ} {e:τ→ρ} {i:Int} {t:τ} {x:α} {r:List α}:v_go f e i t (x :: r) = (match f i t x with | .inl t' => v_go f e (i + 1) t' r | .inr v => v) := rfl
theorem jFJ {α τ σ ρ:Type} {dd:ρ} {st:σ→σ ⊕ ρ} {sp:σ→List Prop} (mk:Int→τ→σ) (l:List α) (d:α) (f:Int→τ→α→τ ⊕ ρ) (e:τ→ρ) (I:Nat→τ→Prop) (hl:jbA l)
  (hn:∀ t,I l.length t→(∀ p∈sp (mk l.length t),p)∧st (mk l.length t) = .inr (e t))
  (hc:∀ (j:Nat) (t:τ),j < l.length→I j t→(∀ p∈sp (mk j t),p)∧(st (mk j t) = match f j t (l.getD j d) with | .inl t' => .inl (mk ((j + 1:Nat):Int) t') | .inr v => .inr v)∧∀ t',f j t (l.getD j d) = .inl t'→I (j + 1) t')
  (t:τ) (h:I 0 t):OkL st sp (mk 0 t)∧lpv dd st (mk 0 t) = v_go f e 0 t l := by
 have := jFx (dd := dd) mk l d (fun r t => r.length≤l.length∧I (l.length - r.length) t) (fun r t => v_go f e ((l.length:Int) - r.length) t r) hl (st := st) (sp := sp) ?_ ?_ t ⟨Nat.le_refl _,by simpa using h⟩
 ·rw [Int.sub_self] at this; exact this
 ·intro t ⟨_,hi⟩
  obtain ⟨h1,h2⟩ := hn t (by simpa using hi)
  exact ⟨h1,by rw [h2]; rfl⟩
 ·intro j t hj ⟨_,hi⟩
  have e1:(l.getD j d :: l.drop (j + 1)).length = l.length - j := by simp; omega
  have e2:(l.drop (j + 1)).length = l.length - (j + 1) := by simp
  have e3:l.length - (l.length - j) = j := by omega
  have e4:l.length - (l.length - (j + 1)) = j + 1 := by omega
  have e5:(l.length:Int) - ((l.length - j:Nat):Int) = j := by omega
  have e6:(l.length:Int) - ((l.length - (j + 1):Nat):Int) = (j:Int) + 1 := by omega
  rw [e1,e3] at hi
  obtain ⟨h1,h2,h3⟩ := hc j t hj hi
  refine ⟨h1,?_⟩
  rw [e1,e2,e4,e5,e6,jua]
  cases hf:f j t (l.getD j d) with
  | inl t' => rw [hf] at h2; exact .inl ⟨t',h2,⟨by omega,h3 t' hf⟩,rfl⟩
  | inr v => rw [hf] at h2; exact .inr h2
def jaZ {α ρ:Type} (f:Int→α→Option ρ) (e:ρ):Int→List α→ρ
 | _,[] => e
 | i,x :: r => match f i x with
  | some v => v
  | none => jaZ f e (i + 1) r
theorem jub {α ρ:Type} {f:Int→α→Option ρ} {e:ρ}:∀ (l:List α) (i:Int),v_go (fun i (_:Unit) x => match f i x with | none => .inl () | some v => .inr v) (fun _ => e) i () l = jaZ f e i l
 | [],_ => rfl
 | x :: r,i => by
  rw [jua]
  unfold jaZ
  cases f i x with
  | none => exact jub r (i + 1)
  | some v => rfl
theorem juc {α ρ:Type} {f:Int→α→Option ρ} {e:ρ} {P:ρ→Prop}:∀ (l:List α) (i:Int),P (jaZ f e i l)→(∀ j x v,x∈l→f j x = some v→¬ P v)→∀ k,(h:k < l.length)→f (i + k) l[k] = none
 | [],_,_,_,k,h => absurd h (Nat.not_lt_zero _)
 | x :: r,i,hp,hn,k,h => by
  unfold jaZ at hp
  cases hf:f i x with
  | some v => rw [hf] at hp; exact absurd hp (hn i x v (by simp) hf)
  | none =>
   rw [hf] at hp
   match k with
   | 0 => simpa using hf
   | k + 1 =>
    have := juc r (i + 1) hp (fun j y v hy => hn j y v (by simp [hy])) k (by simpa using h)
    simpa [Int.add_assoc,Int.add_comm 1] using this
theorem jn3 {α ρ:Type} {dd:ρ} {st:Int→Int ⊕ ρ} {sp:Int→List Prop} (l:List α) (d:α) (f:Int→α→Option ρ) (e:ρ) (hl:jbA l)
  (hn:(∀ p∈sp l.length,p)∧st l.length = .inr e)
  (hc:∀ (j:Nat),j < l.length→(∀ p∈sp j,p)∧st j = match f j (l.getD j d) with | none => .inl ((j + 1:Nat):Int) | some v => .inr v) :
  OkL st sp 0∧lpv dd st 0 = jaZ f e 0 l := by
 rw [← jub]
 refine jFJ (τ := Unit) (fun i _ => i) l d (fun i (_:Unit) x => match f i x with | none => .inl () | some v => .inr v) (fun _ => e) (fun _ _ => True) hl (fun _ _ => hn) (fun j t hj _ => ?_) () trivial
 obtain ⟨h1,h2⟩ := hc j hj
 refine ⟨h1,?_,fun _ _ => trivial⟩
 rw [h2]
 cases f j (l.getD j d) <;> rfl
def jaG:List Int→Int
 | [] => 0
 | x :: r => cond (x != 0) x (jaG r)
theorem jud:∀ (l:List Int) (i:Int),jaZ (fun _ x => cond (x != 0) (some x) none) (0:Int) i l = jaG l
 | [],_ => rfl
 | x :: r,i => by
  unfold jaZ jaG
  cases (x != 0)
  ·exact jud r (i + 1)
  ·rfl
theorem jf7 {x:Int} (h:(x != 0) = false):x = 0 := by simpa using h
theorem jfi {x:Int} {l:List Int} (h:jaG (x :: l) = 0):x = 0∧jaG l = 0 := by
 unfold jaG at h
 cases hx:(x != 0) with
 | true => rw [hx] at h; have:x = 0 := h; simp [this] at hx
 | false => rw [hx] at h; exact ⟨jf7 hx,h⟩
theorem jbF {α:Type} {l:List α} {j:Nat} (d:α) (hj:j < l.length):l.getD j d∈l := by
 rw [List.getD,List.getElem?_eq_getElem hj]; exact List.getElem_mem hj
theorem jFK {α:Type} {l:List α} {n:Nat} (h:l.length≤n) (hn:n≤9223372036854775806):jbA l := by unfold jbA; omega
theorem jue {α:Type} {c:α→Bool}:∀ (l:List α) (i:Int),0≤i→decide (jaZ (fun i x => cond (c x) (some i) none) (-1) i l ≥ 0) = l.any c
 | [],_,_ => rfl
 | x :: l,i,h => by
  unfold jaZ
  rw [List.any_cons]
  cases c x
  ·exact jue l (i + 1) (by omega)
  ·simpa using h
theorem jbN {τ σ ρ:Type} {dd:ρ} {st:σ→σ ⊕ ρ} {sp:σ→List Prop} (mk:Int→τ→σ) (a n:Nat) (I:Nat→τ→Prop) (F:Nat→τ→ρ) (ha:a≤n) (hl:n≤4611686018427387904)
  (hn:∀ t,I n t→(∀ p∈sp (mk n t),p)∧st (mk n t) = .inr (F n t))
  (hc:∀ (j:Nat) (t:τ),a≤j→j < n→I j t→(∀ p∈sp (mk j t),p)∧((∃ t',st (mk j t) = .inl (mk ((j + 1:Nat):Int) t')∧I (j + 1) t'∧F (j + 1) t' = F j t) ∨ st (mk j t) = .inr (F j t))) (t:τ) (h:I a t):OkL st sp (mk a t)∧lpv dd st (mk a t) = F a t := by
 have key:∀ (m j f:Nat) (t:τ),a≤j→m + j = n→m < f→I j t→OkN st sp f (mk j t)∧runL dd st f (mk j t) = F j t := by
  intro m
  induction m with
  | zero =>
   intro j f t _ hj hf hi
   have:j = n := by omega
   subst this
   obtain ⟨g1,g2⟩ := hn t hi
   cases f with
   | zero => omega
   | succ f => unfold OkN runL; rw [g2]; exact ⟨⟨g1,trivial⟩,rfl⟩
  | succ m ih =>
   intro j f t haj hj hf hi
   obtain ⟨g1,g2⟩ := hc j t haj (by omega) hi
   cases f with
   | zero => omega
   | succ f =>
    unfold OkN runL
    rcases g2 with ⟨t',e,i',f'⟩ | e
    ·rw [e]
     obtain ⟨q1,q2⟩ := ih (j + 1) f t' (by omega) (by omega) (by omega) i'
     exact ⟨⟨g1,q1⟩,by rw [← f']; exact q2⟩
    ·rw [e]; exact ⟨⟨g1,trivial⟩,rfl⟩
 exact key (n - a) a fuel t (Nat.le_refl _) (by omega) (by unfold fuel; omega) h
theorem jFL {β σ ρ:Type} {dd:ρ} {st:σ→σ ⊕ ρ} {sp:σ→List Prop} (mk:Int→List β→σ) (a n:Nat) (g:Nat→β) (e:List β→ρ) (ha:a≤n) (hl:n≤1000000)
  (hn:∀ t,t.length + a = n→(∀ p∈sp (mk n t),p)∧st (mk n t) = .inr (e t))
  (hc:∀ (j:Nat) (t:List β),a≤j→j < n→t.length + a = j→(∀ p∈sp (mk j t),p)∧st (mk j t) = .inl (mk ((j + 1:Nat):Int) (t ++ [g j]))):OkL st sp (mk a [])∧lpv dd st (mk a []) = e ((List.range' a (n - a)).map g) := by
 refine jbN mk a n (fun j t => t.length + a = j∧t ++ (List.range' j (n - j)).map g = (List.range' a (n - a)).map g) (fun _ _ => e ((List.range' a (n - a)).map g)) ha (by omega) ?_ ?_ [] ⟨by simp,rfl⟩
 ·rintro t ⟨h1,h2⟩
  obtain ⟨g1,g2⟩ := hn t h1
  refine ⟨g1,?_⟩
  rw [g2,← h2]; simp
 ·rintro j t h0 h1 ⟨h2,h3⟩
  obtain ⟨g1,g2⟩ := hc j t h0 h1 h2
  refine ⟨g1,.inl ⟨t ++ [g j],g2,⟨by simp; omega,?_⟩,rfl⟩⟩
  rw [← h3,show n - j = (n - (j + 1)) + 1 by omega,List.range'_succ]
  simp
theorem int0 (x:Int):(x = 0∧(x != 0) = false∧(x == 0) = true) ∨ (x ≠ 0∧(x != 0) = true∧(x == 0) = false) := by by_cases h:x = 0 <;> simp [h]
theorem dec0 {a b:Int}:(a < b∧decide (a < b) = true∧decide (a ≥ b) = false∧decide (b≤a) = false∧decide (b > a) = true) ∨ (b≤a∧decide (a < b) = false∧decide (a ≥ b) = true∧decide (b≤a) = true∧decide (b > a) = false) := by
 rcases Int.lt_or_le a b with h | h
 ·exact .inl ⟨h,decide_eq_true h,decide_eq_false (by omega),decide_eq_false (by omega),decide_eq_true h⟩
 ·exact .inr ⟨h,decide_eq_false (by omega),decide_eq_true h,decide_eq_true h,decide_eq_false (by omega)⟩
def ja3 (a b:Int):Int := ((Int.gcd a b:Nat):Int)
theorem jFM (a b:Int):ja3 b (a.tmod b) = ja3 a b := by
 unfold ja3 Int.gcd
 rw [Int.natAbs_tmod,Nat.gcd_comm,← Nat.gcd_rec,Nat.gcd_comm]
abbrev jb3 (a:Int):Prop := -9223372036854775807≤a∧a≤9223372036854775807
theorem jhv (a b:Int):ja3 a b ∣ a := Int.gcd_dvd_left a b
theorem juf (a b:Int):ja3 a b ∣ b := Int.gcd_dvd_right a b
end Go.Mx
namespace Go.Mx
theorem jf8 {α:Type} {l:List α} {k:Nat} (d:α) (h:k < l.length):l.getD k d = l[k] := by
 rw [List.getD,List.getElem?_eq_getElem h]; rfl
theorem jdA {α:Type} {l:List α} {k:Nat} (d:α) (h:l.length≤k):l.getD k d = d := by
 rw [List.getD,List.getElem?_eq_none h]; rfl
theorem jn4 {α:Type} {l:List α} {i k:Nat} {a d:α} (h:i < l.length):(l.set i a).getD k d = if k = i then a else l.getD k d := by
 rw [List.getD,List.getElem?_set]
 by_cases e:k = i
 ·subst e; rw [if_pos rfl,if_pos h,if_pos rfl]; rfl
 ·rw [if_neg (fun h => e h.symm),if_neg e]; rfl
theorem jFN {α:Type} {n k:Nat} {a d:α} (h:k < n):(List.replicate n a).getD k d = a := by
 rw [jf8 d (by simpa using h),List.getElem_replicate]
theorem jFO {α:Type} {n k:Nat} {a:α}:(List.replicate n a).getD k a = a := by
 by_cases h:k < n
 ·exact jFN h
 ·exact jdA _ (by simpa using h)
theorem jn5 {α:Type} (d:α) {l r:List α} (hl:l.length = r.length) (h:∀ k,k < l.length→l.getD k d = r.getD k d):l = r := by
 refine List.ext_getElem hl fun k h1 h2 => ?_
 have := h k h1
 rwa [jf8 d h1,jf8 d h2] at this
def jaw (f:Nat→Int):Nat→Nat→Int
 | _,0 => 0
 | a,n + 1 => f a + jaw f (a + 1) n
theorem jcx (f:Nat→Int):∀ (n a:Nat),jaw f a (n + 1) = jaw f a n + f (a + n)
 | 0,a => by simp [jaw]
 | n + 1,a => by
  rw [jaw,jcx f n (a + 1),jaw,show a + 1 + n = a + (n + 1) by omega]; omega
theorem jcL {f g:Nat→Int}:∀ (n a:Nat),(∀ k,a≤k→k < a + n→f k = g k)→jaw f a n = jaw g a n
 | 0,_,_ => rfl
 | n + 1,a,h => by
  rw [jaw,jaw,h a (by omega) (by omega),jcL n (a + 1) (fun k h1 h2 => h k (by omega) (by omega))]
theorem jeF {f:Nat→Int} {m:Int}:∀ (n a:Nat),(∀ k,a≤k→k < a + n→-m≤f k∧f k≤m)→-(n * m)≤jaw f a n∧jaw f a n≤n * m
 | 0,_,_ => by simp [jaw]
 | n + 1,a,h => by
  have h1 := h a (by omega) (by omega)
  have h2 := jeF (f := f) (m := m) n (a + 1) (fun k h1 h2 => h k (by omega) (by omega))
  rw [jaw]
  have e:((n + 1:Nat):Int) * m = n * m + m := by rw [show ((n + 1:Nat):Int) = (n:Int) + 1 by omega,Int.add_mul,Int.one_mul]
  rw [e]; omega
theorem jdB (f g:Nat→Int):∀ (n a:Nat),jaw (fun k => f k + g k) a n = jaw f a n + jaw g a n
 | 0,_ => rfl
 | n + 1,a => by rw [jaw,jaw,jaw,jdB f g n (a + 1)]; omega
theorem jeG (c:Int) (f:Nat→Int):∀ (n a:Nat),jaw (fun k => c * f k) a n = c * jaw f a n
 | 0,_ => by simp [jaw]
 | n + 1,a => by rw [jaw,jaw,jeG c f n (a + 1),Int.mul_add]
structure v_gok (a b:Int):Prop where
 ra : -9223372036854775808≤a∧a≤9223372036854775807
 rb:jb3 b
 rc:jb3 a ∨ b ≠ 0
theorem jbk {n:Int} (h1:0≤n) (h2:n < 18446744073709551616):IntKind.u64.wrap n = n := by
 simp only [IntKind.wrap,IntKind.bits,IntKind.signed]; simp; omega
theorem jfj (n:Int):IntKind.u64.wrap n = n % 18446744073709551616 := by
 simp only [IntKind.wrap,IntKind.bits,IntKind.signed]; simp
theorem jfk (n:Nat):jab .u64 (n:Int) 32 = ((n / 4294967296:Nat):Int) := by
 unfold jab
 rw [show (2:Int) ^ (min (Int.toNat 32) (IntKind.bits .u64)) = 4294967296 from by decide,Int.fdiv_eq_ediv_of_nonneg _ (by decide)]
 simp
theorem jhw (n:Nat) (h:n < 18446744073709551616):jam .u64 (n:Int) 4294967295 = ((n % 4294967296:Nat):Int) := by
 have e1:BitVec.ofInt 64 (n:Int) = BitVec.ofNat 64 n := BitVec.ofInt_natCast ..
 have e2:BitVec.ofInt 64 4294967295 = BitVec.ofNat 64 4294967295 := by decide
 show IntKind.u64.wrap (((BitVec.ofInt 64 (n:Int) &&& BitVec.ofInt 64 4294967295).toNat:Nat):Int) = _
 rw [e1,e2,BitVec.toNat_and,BitVec.toNat_ofNat,BitVec.toNat_ofNat,Nat.mod_eq_of_lt (by simpa using h),Nat.mod_eq_of_lt (by decide),show (4294967295:Nat) = 2 ^ 32 - 1 from rfl,Nat.and_two_pow_sub_one_eq_mod n 32]
 rw [jbk (by omega) (by omega)]
theorem jFP (x y:Nat) (hx:x < 18446744073709551616) (hy:y < 18446744073709551616) :
  IntKind.u64.wrap (IntKind.u64.wrap (IntKind.u64.wrap (jab .u64 (x:Int) 32 * jab .u64 (y:Int) 32) + jab .u64 (IntKind.u64.wrap (IntKind.u64.wrap (jab .u64 (x:Int) 32 * jam .u64 (y:Int) 4294967295) + jab .u64 (IntKind.u64.wrap (jam .u64 (x:Int) 4294967295 * jam .u64 (y:Int) 4294967295)) 32)) 32) + jab .u64 (IntKind.u64.wrap (jam .u64 (IntKind.u64.wrap (IntKind.u64.wrap (jab .u64 (x:Int) 32 * jam .u64 (y:Int) 4294967295) + jab .u64 (IntKind.u64.wrap (jam .u64 (x:Int) 4294967295 * jam .u64 (y:Int) 4294967295)) 32)) 4294967295 + IntKind.u64.wrap (jam .u64 (x:Int) 4294967295 * jab .u64 (y:Int) 32))) 32) = (x:Int) * y / 18446744073709551616∧IntKind.u64.wrap ((x:Int) * y) = (x:Int) * y % 18446744073709551616 := by
 obtain ⟨h1,h2,h3,h4⟩ := Go.Lib.mul64_hi x y hx hy
 have hp:x * y / 18446744073709551616 < 18446744073709551616 := by
  rw [Nat.div_lt_iff_lt_mul (by decide)]
  exact Nat.mul_lt_mul'' hx hy
 rw [jfk,jfk,jhw _ hx,jhw _ hy]
 generalize x / 4294967296 = a at *
 generalize x % 4294967296 = b at *
 generalize y / 4294967296 = c at *
 generalize y % 4294967296 = d at *
 have w1:IntKind.u64.wrap ((b:Int) * (d:Int)) = ((b * d:Nat):Int) := by rw [← Int.natCast_mul,jbk (by omega) (by omega)]
 rw [w1,jfk]
 have w2:IntKind.u64.wrap ((a:Int) * (d:Int)) = ((a * d:Nat):Int) := by rw [← Int.natCast_mul,jbk (by omega) (by omega)]
 have w3:IntKind.u64.wrap (((a * d:Nat):Int) + ((b * d / 4294967296:Nat):Int)) = ((a * d + b * d / 4294967296:Nat):Int) := by rw [← Int.natCast_add,jbk (by omega) (by omega)]
 rw [w2,w3,jfk,jhw _ h2]
 have w4:IntKind.u64.wrap ((b:Int) * (c:Int)) = ((b * c:Nat):Int) := by rw [← Int.natCast_mul,jbk (by omega) (by omega)]
 have w5:IntKind.u64.wrap ((((a * d + b * d / 4294967296) % 4294967296:Nat):Int) + ((b * c:Nat):Int)) = (((a * d + b * d / 4294967296) % 4294967296 + b * c:Nat):Int) := by rw [← Int.natCast_add,jbk (by omega) (by omega)]
 rw [w4,w5,jfk]
 have w6:IntKind.u64.wrap ((a:Int) * (c:Int)) = ((a * c:Nat):Int) := by rw [← Int.natCast_mul,jbk (by omega) (by omega)]
 have w7:IntKind.u64.wrap (((a * c:Nat):Int) + (((a * d + b * d / 4294967296) / 4294967296:Nat):Int)) = ((a * c + (a * d + b * d / 4294967296) / 4294967296:Nat):Int) := by rw [← Int.natCast_add,jbk (by omega) (by omega)]
 rw [w6,w7,← Int.natCast_add,h4,jbk (by omega) (by omega),jfj]
 refine ⟨?_,rfl⟩
 rw [← Int.natCast_mul]; simp
end Go.Mx
