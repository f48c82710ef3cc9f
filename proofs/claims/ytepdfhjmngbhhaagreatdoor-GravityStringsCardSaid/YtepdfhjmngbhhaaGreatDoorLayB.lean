/- Layers of the walk: abstract values, operations, calls, loops, and what they do. No condition. -/
import Derived.Test.YtepdfhjmngbhhaaGreatDoorTxW
import Derived.Lib.Mul64
namespace Go.Mx
def tyAt:List Ty→Nat→Ty
 | [],_ => .un
 | t :: _,0 => t
 | _ :: r,n + 1 => tyAt r n
end Go.Mx
namespace Go.Mx
theorem br' {α:Type} {b:Bool} {X Y:α} {K:α→Prop} {P Q:Prop} (h:K (cond b X Y)) (hP:b = true→K X→P) (hQ:b = false→K Y→Q):(b = true→P)∧(b = false→Q) :=
 ⟨fun e => hP e (by rw [e] at h; exact h),fun e => hQ e (by rw [e] at h; exact h)⟩
theorem conj_of {l:List Prop} (h:∀ p∈l,p):conj l True := conj_iff.2 ⟨h,trivial⟩
end Go.Mx
namespace Go.Mx
abbrev lenOk {α:Type} (l:List α):Prop := (l.length:Int)≤9223372036854775806
theorem lenOk_of {α:Type} {l:List α} (n:Nat) (h:l.length = n) (hn:n≤1000000):lenOk l := by unfold lenOk; omega
end Go.Mx
namespace Go.Mx
end Go.Mx
namespace Go.Mx
variable [Laid]
inductive Tf (F:TFn) (A:Nat→Ty) (C:Cons) (ps rs:List PSh) (x:(tyPs ps).den) (K:(tyPs rs).den→Prop):Prop
 | mk (h:tfn F A C ps rs x K):Tf F A C ps rs x K
omit [Laid] in
theorem tf_of {F:TFn} {A:Nat→Ty} {C:Cons} {ps rs:List PSh} {x:(tyPs ps).den} {K:(tyPs rs).den→Prop} {p:Prop} (e:tfn F A C ps rs x K = p) (h:p):Tf F A C ps rs x K := .mk (by rw [e]; exact h)
theorem ret_tf {P:Program} {f:FuncId} {F:TFn} (hc:cFn P f = some F.erase) {A:Nat→Ty} {C:Cons} (hC:ConsOk P C) {ps rs:List PSh} {x:(tyPs ps).den} {y:(tyPs rs).den} (h:Tf F A C ps rs x (fun z => z = y)):Ret P f (valPs ps x) (valR rs y) := by
 cases h with | mk h => exact ret_tfn hc hC h
end Go.Mx
namespace Go.Mx
theorem drop_getD {α:Type} {l:List α} {j:Nat} (d:α) (h:j < l.length):l.drop j = l.getD j d :: l.drop (j + 1) := by
 rw [List.drop_eq_getElem_cons h,List.getD,List.getElem?_eq_getElem h]; rfl
theorem wrap_id {n:Int} (h1 : -9223372036854775808≤n) (h2:n≤9223372036854775807):IntKind.i64.wrap n = n := m_wrap h1 h2
theorem wrap_nat {j:Nat} (h:(j:Int)≤9223372036854775806):IntKind.i64.wrap ((j:Int) + 1) = ((j + 1:Nat):Int) := by
 rw [wrap_id (by omega) (by omega)]; simp
/-! Loops as functions: a round goes on (inl) or ends (inr). -/
def LK {σ ρ:Type} (k:σ→Prop) (Q:ρ→Prop):σ ⊕ ρ→Prop
 | .inl y => k y
 | .inr r => Q r
def runL {σ ρ:Type} (d:ρ) (st:σ→σ ⊕ ρ):Nat→σ→ρ
 | 0,_ => d
 | n + 1,x => match st x with
  | .inl y => runL d st n y
  | .inr r => r
def OkN {σ ρ:Type} (st:σ→σ ⊕ ρ) (sp:σ→List Prop):Nat→σ→Prop
 | 0,_ => False
 | n + 1,x => (∀ p∈sp x,p)∧match st x with
  | .inl y => OkN st sp n y
  | .inr _ => True
def fuel:Nat := 18446744073709551616
def lpv {σ ρ:Type} (d:ρ) (st:σ→σ ⊕ ρ) (x:σ):ρ := runL d st fuel x
def OkL {σ ρ:Type} (st:σ→σ ⊕ ρ) (sp:σ→List Prop) (x:σ):Prop := OkN st sp fuel x
theorem loop_gen {σ ρ:Type} {d:ρ} {st:σ→σ ⊕ ρ} {sp:σ→List Prop} {body:σ→(σ→Prop)→Prop} {Q:ρ→Prop} {x:σ} (ho:OkL st sp x) (h:Q (lpv d st x)) (hb:∀ y k,(∀ p∈sp y,p)→LK k Q (st y)→body y k):∃ n,loopP body n x := by
 refine ⟨fuel,?_⟩
 unfold OkL at ho
 unfold lpv at h
 generalize fuel = n at ho h
 induction n generalizing x with
 | zero => exact ho.elim
 | succ n ih =>
  obtain ⟨h1,h2⟩ := ho
  refine hb x _ h1 ?_
  unfold runL at h
  cases hst:st x with
  | inl y => rw [hst] at h h2; exact ih h2 h
  | inr r => rw [hst] at h; exact h
theorem runL_is {σ ρ:Type} {d:ρ} {st:σ→σ ⊕ ρ} {sp:σ→List Prop} (I:σ→Prop) (μ:σ→Nat) (F:σ→ρ)
  (h:∀ x,I x→(∀ p∈sp x,p)∧match st x with | .inl y => I y∧μ y < μ x∧F y = F x | .inr r => F x = r):∀ (n:Nat) (x:σ),I x→μ x < n→OkN st sp n x∧runL d st n x = F x
 | 0,x,_,hn => absurd hn (Nat.not_lt_zero _)
 | n + 1,x,hi,hn => by
  obtain ⟨h1,h2⟩ := h x hi
  unfold OkN runL
  cases hst:st x with
  | inl y =>
   rw [hst] at h2
   obtain ⟨g1,g2,g3⟩ := h2
   obtain ⟨q1,q2⟩ := runL_is I μ F h n y g1 (by omega)
   exact ⟨⟨h1,q1⟩,by rw [← g3]; exact q2⟩
  | inr r => rw [hst] at h2; exact ⟨⟨h1,trivial⟩,h2.symm⟩
theorem loop_is {σ ρ:Type} {d:ρ} {st:σ→σ ⊕ ρ} {sp:σ→List Prop} (I:σ→Prop) (μ:σ→Nat) (F:σ→ρ)
  (h:∀ x,I x→(∀ p∈sp x,p)∧match st x with | .inl y => I y∧μ y < μ x∧F y = F x | .inr r => F x = r) {x:σ} (hx:I x) (hm:μ x < fuel):OkL st sp x∧lpv d st x = F x := runL_is I μ F h fuel x hx hm
theorem list_is {α τ σ ρ:Type} {dd:ρ} {st:σ→σ ⊕ ρ} {sp:σ→List Prop} (mk:Int→τ→σ) (l:List α) (d:α) (I:List α→τ→Prop) (F:List α→τ→ρ) (hl:lenOk l)
  (hn:∀ t,I [] t→(∀ p∈sp (mk l.length t),p)∧st (mk l.length t) = .inr (F [] t))
  (hc:∀ (j:Nat) (t:τ),j < l.length→I (l.getD j d :: l.drop (j + 1)) t→(∀ p∈sp (mk j t),p) ∧
   ((∃ t',st (mk j t) = .inl (mk ((j + 1:Nat):Int) t')∧I (l.drop (j + 1)) t'∧F (l.drop (j + 1)) t' = F (l.getD j d :: l.drop (j + 1)) t) ∨ st (mk j t) = .inr (F (l.getD j d :: l.drop (j + 1)) t))) (t:τ) (h:I l t):OkL st sp (mk 0 t)∧lpv dd st (mk 0 t) = F l t := by
 have key:∀ (m j n:Nat) (t:τ),m + j = l.length→m < n→I (l.drop j) t→OkN st sp n (mk j t)∧runL dd st n (mk j t) = F (l.drop j) t := by
  intro m
  induction m with
  | zero =>
   intro j n t hj hn' hi
   have:j = l.length := by omega
   subst this
   rw [List.drop_length] at hi ⊢
   obtain ⟨g1,g2⟩ := hn t hi
   cases n with
   | zero => omega
   | succ n => unfold OkN runL; rw [g2]; exact ⟨⟨g1,trivial⟩,rfl⟩
  | succ m ih =>
   intro j n t hj hn' hi
   have hj' : j < l.length := by omega
   rw [drop_getD d hj'] at hi ⊢
   obtain ⟨g1,g2⟩ := hc j t hj' hi
   cases n with
   | zero => omega
   | succ n =>
    unfold OkN runL
    rcases g2 with ⟨t',e,i',f'⟩ | e
    ·rw [e]
     obtain ⟨q1,q2⟩ := ih (j + 1) n t' (by omega) (by omega) i'
     exact ⟨⟨g1,q1⟩,by rw [← f']; exact q2⟩
    ·rw [e]; exact ⟨⟨g1,trivial⟩,rfl⟩
 exact key l.length 0 fuel t (by omega) (by unfold lenOk at hl; unfold fuel; omega) h
def rngV {α σ ρ:Type} (st:σ→α→σ ⊕ ρ) (fin:σ→ρ):List α→σ→ρ
 | [],y => fin y
 | z :: r,y => match st y z with
  | .inl y' => rngV st fin r y'
  | .inr v => v
def OkR {α σ ρ:Type} (st:σ→α→σ ⊕ ρ) (sp:σ→α→List Prop) (fp:σ→List Prop):List α→σ→Prop
 | [],y => ∀ p∈fp y,p
 | z :: r,y => (∀ p∈sp y z,p)∧match st y z with
  | .inl y' => OkR st sp fp r y'
  | .inr _ => True
theorem rng_gen0 {α σ ρ:Type} {st:σ→α→σ ⊕ ρ} {sp:σ→α→List Prop} {fin:σ→ρ} {fp:σ→List Prop} {body:σ→α→(σ→Prop)→Prop} {kk:σ→Prop} {Q:ρ→Prop}:∀ {l:List α} {x:σ} (_:OkR st sp fp l x) (_:Q (rngV st fin l x)) (_:∀ y z k,(∀ p∈sp y z,p)→LK k Q (st y z)→body y z k)
  (_:∀ s,(∀ p∈fp s,p)→Q (fin s)→kk s),rngP body kk l x
 | [],x,ho,h,_,hk => hk x ho h
 | z :: r,x,ho,h,hb,hk => by
  obtain ⟨h1,h2⟩ := ho
  refine hb x z _ h1 ?_
  unfold rngV at h
  cases hst:st x z with
  | inl y => rw [hst] at h h2; exact rng_gen0 (st := st) h2 h hb hk
  | inr v => rw [hst] at h; exact h
theorem rng_gen {α σ ρ:Type} {st:σ→α→σ ⊕ ρ} {sp:σ→α→List Prop} {fin:σ→ρ} {fp:σ→List Prop} {body:σ→α→(σ→Prop)→Prop} {kk:σ→Prop} {Q:ρ→Prop} {l:List α} {x:σ} (ho:OkR st sp fp l x) (h:Q (rngV st fin l x)) (hb:∀ y z k,(∀ p∈sp y z,p)→LK k Q (st y z)→body y z k)
  (hk:∀ s,(∀ p∈fp s,p)→Q (fin s)→kk s):RngP body kk l x := .mk (rng_gen0 ho h hb hk)
theorem rng_is {α σ ρ:Type} {st:σ→α→σ ⊕ ρ} {sp:σ→α→List Prop} {fin:σ→ρ} {fp:σ→List Prop} (I:List α→σ→Prop) (F:List α→σ→ρ) (h0:∀ s,I [] s→(∀ p∈fp s,p)∧fin s = F [] s)
  (hc:∀ z r s,I (z :: r) s→(∀ p∈sp s z,p)∧match st s z with | .inl y => I r y∧F r y = F (z :: r) s | .inr v => v = F (z :: r) s):∀ (l:List α) (s:σ),I l s→OkR st sp fp l s∧rngV st fin l s = F l s
 | [],s,h => h0 s h
 | z :: r,s,h => by
  obtain ⟨h1,h2⟩ := hc z r s h
  unfold OkR rngV
  cases hst:st s z with
  | inl y =>
   rw [hst] at h2
   obtain ⟨q1,q2⟩ := rng_is I F h0 hc r y h2.1
   exact ⟨⟨h1,q1⟩,by rw [← h2.2]; exact q2⟩
  | inr v => rw [hst] at h2; exact ⟨⟨h1,trivial⟩,h2⟩
end Go.Mx
namespace Go.Mx
variable [Laid]
def shT:Ty→List Sh
 | .int k => [.int k]
 | .bool => [.bool]
 | .str => [.str]
 | .sl e => [.sl (shT e)]
 | .pr a b => shT a ++ shT b
 | .un => []
 | .err => [.nev]
def Ty.ok:(t:Ty)→t.den→Prop
 | .int k,(n:Int) => k.min≤n∧n≤k.max
 | .bool,_ => True
 | .str,(s:ByteArray) => s.size≤maxLen
 | .sl e,(l:List e.den) => l.length≤maxLen∧∀ x∈l,e.ok x
 | .pr a b,x => a.ok x.1∧b.ok x.2
 | .un,_ => True
 | .err,_ => True

omit [Laid] in
theorem WtL.one {q:Sh} {vs:List Pv} (h:WtL [q] vs):∃ p,vs = [p]∧Wt q p := by
 obtain ⟨h1,h2⟩ := h
 match vs,h1 with
 | [p],_ => exact ⟨p,rfl,h2 0 q p rfl rfl⟩
omit [Laid] in
theorem WtL.split {a b:List Sh} {vs:List Pv} (h:WtL (a ++ b) vs):∃ x y,vs = x ++ y∧WtL a x∧WtL b y := by
 obtain ⟨h1,h2⟩ := h
 rw [List.length_append] at h1
 refine ⟨vs.take a.length,vs.drop a.length,(List.take_append_drop _ _).symm,⟨by rw [List.length_take]; omega,fun i s p hs hp => ?_⟩,⟨by rw [List.length_drop]; omega,fun i s p hs hp => ?_⟩⟩
 ·have hi := (List.getElem?_eq_some_iff.1 hs).1
  rw [List.getElem?_take,if_pos hi] at hp
  exact h2 i s p (by rw [List.getElem?_append,if_pos hi]; exact hs) hp
 ·rw [List.getElem?_drop] at hp
  refine h2 (a.length + i) s p ?_ hp
  rw [List.getElem?_append,if_neg (by omega),Nat.add_sub_cancel_left]; exact hs

omit [Laid] in
theorem shT_len:∀ (t:Ty),(shT t).length = t.n
 | .int _ => rfl
 | .bool => rfl
 | .str => rfl
 | .sl _ => rfl
 | .pr a b => by simp only [shT,List.length_append,shT_len a,shT_len b,Ty.n]
 | .un => rfl
 | .err => rfl
omit [Laid] in
theorem typed_of:∀ (t:Ty) (vs:List Pv),WtL (shT t) vs→∃ x:t.den,vs = t.enc x∧t.ok x
 | .int k,vs,h => by
  obtain ⟨p,rfl,hp⟩ := h.one
  cases hp with
  | int _ n hn =>
   simp only [Lit.wf,Bool.and_eq_true,decide_eq_true_eq] at hn
   exact ⟨n,rfl,hn⟩
 | .err,vs,h => by
  obtain ⟨p,rfl,hp⟩ := h.one
  cases hp
 | .bool,vs,h => by
  obtain ⟨p,rfl,hp⟩ := h.one
  cases hp with
  | bool b => exact ⟨b,rfl,trivial⟩
 | .str,vs,h => by
  obtain ⟨p,rfl,hp⟩ := h.one
  cases hp with
  | str s hs => exact ⟨s,rfl,hs⟩
 | .sl e,vs,h => by
  obtain ⟨p,rfl,hp⟩ := h.one
  cases hp with
  | sl _ es h1 h2 h3 =>
   have key:∀ es:List (List Pv),(∀ x∈es,WtL (shT e) x)→∃ l:List e.den,es = l.map e.enc∧∀ x∈l,e.ok x := by
    intro es
    induction es with
    | nil => intro _; exact ⟨[],rfl,by simp⟩
    | cons x r ih =>
     intro h
     obtain ⟨y,hy,hok⟩ := typed_of e x (h x (by simp))
     obtain ⟨l,hl,hlo⟩ := ih (fun x hx => h x (by simp [hx]))
     refine ⟨y :: l,by rw [hy,hl]; rfl,fun z hz => ?_⟩
     rcases List.mem_cons.1 hz with rfl | hz
     ·exact hok
     ·exact hlo z hz
   obtain ⟨l,rfl,hl⟩ := key es (fun x hx => ⟨h1 x hx,h3 x hx⟩)
   refine ⟨l,?_,?_,hl⟩
   ·rw [shT_len]; rfl
   ·simpa using h2
 | .pr a b,vs,h => by
  obtain ⟨x,y,rfl,hx,hy⟩ := h.split
  obtain ⟨u,rfl,hu⟩ := typed_of a x hx
  obtain ⟨v,rfl,hv⟩ := typed_of b y hy
  exact ⟨(u,v),rfl,hu,hv⟩
 | .un,vs,h => by
  have:vs = [] := List.length_eq_zero_iff.1 h.1
  subst this
  exact ⟨(),rfl,trivial⟩

def shP:PSh→Bool×List Sh
 | .one t => (false,shT t)
 | .agg t => (true,shT t)
 | _ => (false,[])
def okP:(p:PSh)→(tyP p).den→Prop
 | .one t,x => t.ok x
 | .agg t,x => t.ok x
 | _,_ => True
def okPs:(ps:List PSh)→(tyPs ps).den→Prop
 | [],_ => True
 | [p],x => okP p x
 | p :: q :: r,x => okP p x.1∧okPs (q :: r) x.2

omit [Laid] in
theorem typed_arg {p:PSh} {v:V} (h:ArgV (shP p) v):∃ x,v = valP p x∧okP p x := by
 cases p with
 | one t =>
  obtain ⟨q,p,h1,h2,rfl⟩ := h
  have h1:shT t = [q] := h1
  obtain ⟨x,hx,hok⟩ := typed_of t [p] (by rw [h1]; exact ⟨rfl,fun i s u hs hu => by
   match i with
   | 0 => simp at hs hu; subst hs hu; exact h2
   | i + 1 => simp at hs⟩)
  exact ⟨x,by simp only [valP,← hx],hok⟩
 | agg t =>
  obtain ⟨vs,h1,rfl⟩ := h
  obtain ⟨x,rfl,hok⟩ := typed_of t vs h1
  exact ⟨x,rfl,hok⟩
 | ptr t => obtain ⟨q,p,h1,_⟩ := h; cases h1
 | fn f ts => obtain ⟨q,p,h1,_⟩ := h; cases h1
 | fl e => obtain ⟨q,p,h1,_⟩ := h; cases h1

omit [Laid] in
theorem typed_args:∀ (ps:List PSh) (us:List V),ArgsV (ps.map shP) us→∃ x,us = valPs ps x∧okPs ps x
 | [],us,h => by cases h; exact ⟨(),rfl,trivial⟩
 | [p],us,h => by
  cases h with
  | cons h hs =>
   cases hs
   obtain ⟨x,rfl,hx⟩ := typed_arg h
   exact ⟨x,rfl,hx⟩
 | p :: q :: r,us,h => by
  cases h with
  | cons h hs =>
   obtain ⟨x,rfl,hx⟩ := typed_arg h
   obtain ⟨y,rfl,hy⟩ := typed_args (q :: r) _ hs
   exact ⟨(x,y),rfl,hx,hy⟩

theorem law_args {P:Program} {f:FuncId} (ps:List PSh) (h:∀ x,okPs ps x→Ret P f (valPs ps x) (.p (.bool true))):∀ us,ArgsV (ps.map shP) us→Ret P f us (.p (.bool true)) := fun us hu => by
 obtain ⟨x,rfl,hx⟩ := typed_args ps us hu
 exact h x hx
end Go.Mx
namespace Go.Mx
variable [Laid]
def Sh.zero:Sh→Value
 | .int k => .int k 0
 | .bool => .bool false
 | .str => .string ByteArray.empty
 | .sl _ => .slice none 0 0
 | .nev => .nilIface
def zeroArg:Bool×List Sh→Value
 | (true,l) => .agg (l.map Sh.zero).toArray
 | (false,l) => ((l.map Sh.zero).head?).getD (.bool false)
def zeroArgs (ps:List PSh):Array Value := (ps.map fun p => zeroArg (shP p)).toArray
def fnOf (P:Program) (f:FuncId):Func := (P.funcs[f]?).getD default
theorem law_of {P:Program} {f:FuncId} {c:Con} (h:ConOk P f c) (ht:∀ x,okPs c.ps x→(∀ p∈c.pre x,p)∧valR c.rs (c.fn x) = .p (.bool true)):∀ us,ArgsV (c.ps.map shP) us→Ret P f us (.p (.bool true)) :=
 law_args c.ps fun x hx => (ht x hx).2 ▸ h.2 x (ht x hx).1
end Go.Mx
namespace Go.Mx
end Go.Mx
namespace Go.Mx
end Go.Mx
namespace Go.Mx
end Go.Mx
namespace Go.Mx
def v_pick (p:Int→Bool) (i:Int):List Int→Int
 | [] => 0
 | x :: r => (if p i = true then x else 0) + v_pick p (i + 1) r
end Go.Mx
namespace Go.Mx
def v_go {α τ ρ:Type} (f:Int→τ→α→τ ⊕ ρ) (e:τ→ρ):Int→τ→List α→ρ
 | _,t,[] => e t
 | i,t,x :: r => match f i t x with
  | .inl t' => v_go f e (i + 1) t' r
  | .inr v => v
theorem v_go_cons {α τ ρ:Type} {f:Int→τ→α→τ ⊕ ρ} {e:τ→ρ} {i:Int} {t:τ} {x:α} {r:List α}:v_go f e i t (x :: r) = (match f i t x with | .inl t' => v_go f e (i + 1) t' r | .inr v => v) := rfl
theorem go_is {α τ σ ρ:Type} {dd:ρ} {st:σ→σ ⊕ ρ} {sp:σ→List Prop} (mk:Int→τ→σ) (l:List α) (d:α) (f:Int→τ→α→τ ⊕ ρ) (e:τ→ρ) (I:Nat→τ→Prop) (hl:lenOk l)
  (hn:∀ t,I l.length t→(∀ p∈sp (mk l.length t),p)∧st (mk l.length t) = .inr (e t))
  (hc:∀ (j:Nat) (t:τ),j < l.length→I j t→(∀ p∈sp (mk j t),p)∧(st (mk j t) = match f j t (l.getD j d) with | .inl t' => .inl (mk ((j + 1:Nat):Int) t') | .inr v => .inr v)∧∀ t',f j t (l.getD j d) = .inl t'→I (j + 1) t')
  (t:τ) (h:I 0 t):OkL st sp (mk 0 t)∧lpv dd st (mk 0 t) = v_go f e 0 t l := by
 have := list_is (dd := dd) mk l d (fun r t => r.length≤l.length∧I (l.length - r.length) t) (fun r t => v_go f e ((l.length:Int) - r.length) t r) hl (st := st) (sp := sp) ?_ ?_ t ⟨Nat.le_refl _,by simpa using h⟩
 ·rw [Int.sub_self] at this; exact this
 ·intro t ⟨_,hi⟩
  obtain ⟨h1,h2⟩ := hn t (by simpa using hi)
  exact ⟨h1,by rw [h2]; rfl⟩
 ·intro j t hj ⟨_,hi⟩
  have e1:(l.getD j d :: l.drop (j + 1)).length = l.length - j := by simp; omega
  have e2:(l.drop (j + 1)).length = l.length - (j + 1) := by simp
  have e3:l.length - (l.length - j) = j := by omega
  have e4:l.length - (l.length - (j + 1)) = j + 1 := by omega
  have e5:(l.length:Int) - ((l.length - j:Nat):Int) = j := by omega
  have e6:(l.length:Int) - ((l.length - (j + 1):Nat):Int) = (j:Int) + 1 := by omega
  rw [e1,e3] at hi
  obtain ⟨h1,h2,h3⟩ := hc j t hj hi
  refine ⟨h1,?_⟩
  rw [e1,e2,e4,e5,e6,v_go_cons]
  cases hf:f j t (l.getD j d) with
  | inl t' => rw [hf] at h2; exact .inl ⟨t',h2,⟨by omega,h3 t' hf⟩,rfl⟩
  | inr v => rw [hf] at h2; exact .inr h2
def v_scan {α ρ:Type} (f:Int→α→Option ρ) (e:ρ):Int→List α→ρ
 | _,[] => e
 | i,x :: r => match f i x with
  | some v => v
  | none => v_scan f e (i + 1) r
theorem v_scan_go {α ρ:Type} {f:Int→α→Option ρ} {e:ρ}:∀ (l:List α) (i:Int),v_go (fun i (_:Unit) x => match f i x with | none => .inl () | some v => .inr v) (fun _ => e) i () l = v_scan f e i l
 | [],_ => rfl
 | x :: r,i => by
  rw [v_go_cons]
  unfold v_scan
  cases f i x with
  | none => exact v_scan_go r (i + 1)
  | some v => rfl
theorem v_scan_end {α ρ:Type} {f:Int→α→Option ρ} {e:ρ} {P:ρ→Prop}:∀ (l:List α) (i:Int),P (v_scan f e i l)→(∀ j x v,x∈l→f j x = some v→¬ P v)→∀ k,(h:k < l.length)→f (i + k) l[k] = none
 | [],_,_,_,k,h => absurd h (Nat.not_lt_zero _)
 | x :: r,i,hp,hn,k,h => by
  unfold v_scan at hp
  cases hf:f i x with
  | some v => rw [hf] at hp; exact absurd hp (hn i x v (by simp) hf)
  | none =>
   rw [hf] at hp
   match k with
   | 0 => simpa using hf
   | k + 1 =>
    have := v_scan_end r (i + 1) hp (fun j y v hy => hn j y v (by simp [hy])) k (by simpa using h)
    simpa [Int.add_assoc,Int.add_comm 1] using this
theorem scan_is {α ρ:Type} {dd:ρ} {st:Int→Int ⊕ ρ} {sp:Int→List Prop} (l:List α) (d:α) (f:Int→α→Option ρ) (e:ρ) (hl:lenOk l)
  (hn:(∀ p∈sp l.length,p)∧st l.length = .inr e)
  (hc:∀ (j:Nat),j < l.length→(∀ p∈sp j,p)∧st j = match f j (l.getD j d) with | none => .inl ((j + 1:Nat):Int) | some v => .inr v) :
  OkL st sp 0∧lpv dd st 0 = v_scan f e 0 l := by
 rw [← v_scan_go]
 refine go_is (τ := Unit) (fun i _ => i) l d (fun i (_:Unit) x => match f i x with | none => .inl () | some v => .inr v) (fun _ => e) (fun _ _ => True) hl (fun _ _ => hn) (fun j t hj _ => ?_) () trivial
 obtain ⟨h1,h2⟩ := hc j hj
 refine ⟨h1,?_,fun _ _ => trivial⟩
 rw [h2]
 cases f j (l.getD j d) <;> rfl
def v_first:List Int→Int
 | [] => 0
 | x :: r => cond (x != 0) x (v_first r)
theorem v_first_scan:∀ (l:List Int) (i:Int),v_scan (fun _ x => cond (x != 0) (some x) none) (0:Int) i l = v_first l
 | [],_ => rfl
 | x :: r,i => by
  unfold v_scan v_first
  cases (x != 0)
  ·exact v_first_scan r (i + 1)
  ·rfl
theorem bne0' {x:Int} (h:(x != 0) = false):x = 0 := by simpa using h
theorem v_first0 {x:Int} {l:List Int} (h:v_first (x :: l) = 0):x = 0∧v_first l = 0 := by
 unfold v_first at h
 cases hx:(x != 0) with
 | true => rw [hx] at h; have:x = 0 := h; simp [this] at hx
 | false => rw [hx] at h; exact ⟨bne0' hx,h⟩
theorem getD_mem' {α:Type} {l:List α} {j:Nat} (d:α) (hj:j < l.length):l.getD j d∈l := by
 rw [List.getD,List.getElem?_eq_getElem hj]; exact List.getElem_mem hj
theorem lenOk_le {α:Type} {l:List α} {n:Nat} (h:l.length≤n) (hn:n≤9223372036854775806):lenOk l := by unfold lenOk; omega
theorem v_scan_idx {α:Type} {c:α→Bool}:∀ (l:List α) (i:Int),0≤i→decide (v_scan (fun i x => cond (c x) (some i) none) (-1) i l ≥ 0) = l.any c
 | [],_,_ => rfl
 | x :: l,i,h => by
  unfold v_scan
  rw [List.any_cons]
  cases c x
  ·exact v_scan_idx l (i + 1) (by omega)
  ·simpa using h
theorem v_scan_eqs {α:Type} [DecidableEq α] (d:α) (c:α→α→Bool) (hc:∀ x y,c x y = decide (x = y)) (q:List α):∀ (p:List α) (k:Nat),p.length + k = q.length→v_scan (fun i x => cond (!(c x (q.getD i.toNat d))) (some false) none) true (k:Int) p = decide (p = q.drop k)
 | [],k,h => by
  have:q.drop k = [] := List.drop_eq_nil_of_le (by simpa using Nat.le_of_eq h.symm)
  rw [this]; rfl
 | x :: r,k,h => by
  have hk:k < q.length := by simp only [List.length_cons] at h; omega
  unfold v_scan
  rw [hc,Int.toNat_natCast,drop_getD d hk]
  have ih := v_scan_eqs d c hc q r (k + 1) (by simp only [List.length_cons] at h; omega)
  by_cases hx:x = q.getD k d
  ·rw [decide_eq_true hx]
   simp only [Bool.not_true,cond_false]
   rw [show ((k:Int) + 1) = ((k + 1:Nat):Int) by omega,ih]
   simp only [List.cons.injEq,hx,true_and]
  ·rw [decide_eq_false hx]
   simp only [Bool.not_false,cond_true,List.cons.injEq,hx,false_and,decide_false]
theorem v_scan_eq {α:Type} [DecidableEq α] (d:α) (c:α→α→Bool) (hc:∀ x y,c x y = decide (x = y)) (p q:List α) (h:p.length = q.length):v_scan (fun i x => cond (!(c x (q.getD i.toNat d))) (some false) none) true 0 p = decide (p = q) := by
 have := v_scan_eqs d c hc q p 0 (by simpa using h)
 simpa using this
theorem for_is {τ σ ρ:Type} {dd:ρ} {st:σ→σ ⊕ ρ} {sp:σ→List Prop} (mk:Int→τ→σ) (a n:Nat) (I:Nat→τ→Prop) (F:Nat→τ→ρ) (ha:a≤n) (hl:n≤4611686018427387904)
  (hn:∀ t,I n t→(∀ p∈sp (mk n t),p)∧st (mk n t) = .inr (F n t))
  (hc:∀ (j:Nat) (t:τ),a≤j→j < n→I j t→(∀ p∈sp (mk j t),p)∧((∃ t',st (mk j t) = .inl (mk ((j + 1:Nat):Int) t')∧I (j + 1) t'∧F (j + 1) t' = F j t) ∨ st (mk j t) = .inr (F j t))) (t:τ) (h:I a t):OkL st sp (mk a t)∧lpv dd st (mk a t) = F a t := by
 have key:∀ (m j f:Nat) (t:τ),a≤j→m + j = n→m < f→I j t→OkN st sp f (mk j t)∧runL dd st f (mk j t) = F j t := by
  intro m
  induction m with
  | zero =>
   intro j f t _ hj hf hi
   have:j = n := by omega
   subst this
   obtain ⟨g1,g2⟩ := hn t hi
   cases f with
   | zero => omega
   | succ f => unfold OkN runL; rw [g2]; exact ⟨⟨g1,trivial⟩,rfl⟩
  | succ m ih =>
   intro j f t haj hj hf hi
   obtain ⟨g1,g2⟩ := hc j t haj (by omega) hi
   cases f with
   | zero => omega
   | succ f =>
    unfold OkN runL
    rcases g2 with ⟨t',e,i',f'⟩ | e
    ·rw [e]
     obtain ⟨q1,q2⟩ := ih (j + 1) f t' (by omega) (by omega) (by omega) i'
     exact ⟨⟨g1,q1⟩,by rw [← f']; exact q2⟩
    ·rw [e]; exact ⟨⟨g1,trivial⟩,rfl⟩
 exact key (n - a) a fuel t (Nat.le_refl _) (by omega) (by unfold fuel; omega) h
theorem int0 (x:Int):(x = 0∧(x != 0) = false∧(x == 0) = true) ∨ (x ≠ 0∧(x != 0) = true∧(x == 0) = false) := by by_cases h:x = 0 <;> simp [h]
theorem v_tmod_lt {a b:Int} (hb:b ≠ 0):(a.tmod b).natAbs < b.natAbs := by
 rw [Int.natAbs_tmod]
 exact Nat.mod_lt _ (by omega)
abbrev v_fit (a:Int):Prop := -9223372036854775807≤a∧a≤9223372036854775807
end Go.Mx
namespace Go.Mx
theorem gd_get {α:Type} {l:List α} {k:Nat} (d:α) (h:k < l.length):l.getD k d = l[k] := by
 rw [List.getD,List.getElem?_eq_getElem h]; rfl
theorem gd_out {α:Type} {l:List α} {k:Nat} (d:α) (h:l.length≤k):l.getD k d = d := by
 rw [List.getD,List.getElem?_eq_none h]; rfl
theorem gd_set {α:Type} {l:List α} {i k:Nat} {a d:α} (h:i < l.length):(l.set i a).getD k d = if k = i then a else l.getD k d := by
 rw [List.getD,List.getElem?_set]
 by_cases e:k = i
 ·subst e; rw [if_pos rfl,if_pos h,if_pos rfl]; rfl
 ·rw [if_neg (fun h => e h.symm),if_neg e]; rfl
theorem gd_app {α:Type} {l r:List α} {k:Nat} {d:α}:(l ++ r).getD k d = if k < l.length then l.getD k d else r.getD (k - l.length) d := by
 by_cases h:k < l.length
 ·rw [if_pos h,List.getD,List.getElem?_append_left h]; rfl
 ·rw [if_neg h,List.getD,List.getElem?_append_right (by omega)]; rfl
theorem gd_rev {α:Type} {l:List α} {k:Nat} {d:α} (h:k < l.length):l.reverse.getD k d = l.getD (l.length - 1 - k) d := by
 rw [gd_get d (by simpa using h),gd_get d (show l.length - 1 - k < l.length by omega),List.getElem_reverse]
theorem gd_drop {α:Type} {l:List α} {i k:Nat} {d:α}:(l.drop i).getD k d = l.getD (i + k) d := by
 rw [List.getD,List.getElem?_drop]; rfl
theorem gd_ext {α:Type} (d:α) {l r:List α} (hl:l.length = r.length) (h:∀ k,k < l.length→l.getD k d = r.getD k d):l = r := by
 refine List.ext_getElem hl fun k h1 h2 => ?_
 have := h k h1
 rwa [gd_get d h1,gd_get d h2] at this
def v_sums (f:Nat→Int):Nat→Nat→Int
 | _,0 => 0
 | a,n + 1 => f a + v_sums f (a + 1) n
theorem v_sums_last (f:Nat→Int):∀ (n a:Nat),v_sums f a (n + 1) = v_sums f a n + f (a + n)
 | 0,a => by simp [v_sums]
 | n + 1,a => by
  rw [v_sums,v_sums_last f n (a + 1),v_sums,show a + 1 + n = a + (n + 1) by omega]; omega
theorem v_sums_congr {f g:Nat→Int}:∀ (n a:Nat),(∀ k,a≤k→k < a + n→f k = g k)→v_sums f a n = v_sums g a n
 | 0,_,_ => rfl
 | n + 1,a,h => by
  rw [v_sums,v_sums,h a (by omega) (by omega),v_sums_congr n (a + 1) (fun k h1 h2 => h k (by omega) (by omega))]
theorem v_sums_in {f:Nat→Int} {m:Int}:∀ (n a:Nat),(∀ k,a≤k→k < a + n→-m≤f k∧f k≤m)→-(n * m)≤v_sums f a n∧v_sums f a n≤n * m
 | 0,_,_ => by simp [v_sums]
 | n + 1,a,h => by
  have h1 := h a (by omega) (by omega)
  have h2 := v_sums_in (f := f) (m := m) n (a + 1) (fun k h1 h2 => h k (by omega) (by omega))
  rw [v_sums]
  have e:((n + 1:Nat):Int) * m = n * m + m := by rw [show ((n + 1:Nat):Int) = (n:Int) + 1 by omega,Int.add_mul,Int.one_mul]
  rw [e]; omega
structure v_gok (a b:Int):Prop where
 ra : -9223372036854775808≤a∧a≤9223372036854775807
 rb:v_fit b
 rc:v_fit a ∨ b ≠ 0
end Go.Mx
