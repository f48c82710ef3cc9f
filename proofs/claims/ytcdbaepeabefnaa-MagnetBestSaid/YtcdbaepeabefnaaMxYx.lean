/- Layers of the walk: abstract values, operations, calls, loops, and what they do. No condition. -/
import Derived.Test.YtcdbaepeabefnaaMxYo
namespace Go.Mx
variable [Laid]
open Go.RowKit

abbrev Ys := List (List V)×List Nat
abbrev YTab := FuncId→List V→Option Ys

def jki (T:YTab) (i:AIns) (K:Bool→St→Option Ys) (al:Bool) (st:St):Option Ys :=
 match i.op with
 | .op o => match jaf st.hp st.get o with
  | some (v,hp') => K al (St.put ⟨st.ts,hp'⟩ i.dst v)
  | none => none
 | .callv _ x args => match st.get x,al,jak (pur st.hp) (args.map st.get) with
  | .yld l',true,some xs => match K false (St.put ⟨st.ts,jcq st.hp⟩ i.dst (.p (.bool false))),K true (St.put ⟨st.ts,jcq st.hp⟩ i.dst (.p (.bool true))) with
   | some ([],[]),some r => some (xs :: r.1,l' :: r.2)
   | _,_ => none
  | _,_,_ => none
 | .call _ f args => match al,jak (purY st.hp) (args.map st.get) with
  | true,some xs => match T f xs with
   | some zs => match K false (St.put ⟨st.ts,jcq st.hp⟩ i.dst (.p (.bool false))),K true (St.put ⟨st.ts,jcq st.hp⟩ i.dst (.p (.bool true))) with
    | some ([],[]),some r => some (zs.1 ++ r.1,zs.2 ++ r.2)
    | _,_ => none
   | none => none
  | _,_ => none

def jeT (T:YTab):List AIns→(Bool→St→Option Ys)→Bool→St→Option Ys
 | [],K,al,st => K al st
 | i :: r,K,al,st => match i.guard with
  | none => jki T i (jeT T r K) al st
  | some (some g,want) => match st.get (.t g) with
   | .p (.bool b) => match b == want with
    | true => jki T i (jeT T r K) al st
    | false => jeT T r K al (st.put i.dst .no)
   | .no => jeT T r K al (st.put i.dst .no)
   | _ => none
  | some (none,_) => none

def jhZ (pairs:List (Nat×Nat)):List AIns→St→List (List Nat×List Nat)→Option St
 | [],st,F => match okF F pairs with
  | true => some st
  | false => none
 | i :: r,st,F => match i.guard,i.op with
  | none,.op o => match jaf st.hp st.get o with
   | some (v,hp') => jhZ pairs r (St.put ⟨st.ts,hp'⟩ i.dst v) (F ++ [(ja0 st.get o,wrs st.get o)])
   | none => none
  | _,_ => none
theorem jwn {P:Program} {pairs:List (Nat×Nat)} {K:St→Prop}:∀ (ops:List AIns) (st:St) (F:List (List Nat×List Nat)) (s:St),jhZ pairs ops st F = some s→K s→jbC P 0 pairs ops st F K
 | [],st,F,s,h,hk => by
  unfold jhZ at h
  split at h
  ·rename_i ho; cases h; exact ⟨ho,hk⟩
  ·cases h
 | i :: r,st,F,s,h,hk => by
  unfold jhZ at h
  unfold jbC
  split at h
  ·rename_i o hg ho
   rw [hg]
   dsimp only
   unfold ADo
   rw [ho]
   split at h
   ·rename_i v hp' ha
    exact ⟨v,hp',ha,jwn r _ _ s h hk⟩
   ·cases h
  ·cases h
def jwo (next:Bool→St→Option Ys) (K:Bool→AEx→St→Option Ys):Bool→AEx→St→Option Ys
 | al,.normal,s => next al s
 | al,e,s => K al e s
def jwp (id:Nat) (K:Bool→AEx→St→Option Ys):Bool→AEx→St→Option Ys
 | al,.exit j,s => match Nat.beq j id with
  | true => K al .normal s
  | false => K al (.exit j) s
 | al,e,s => K al e s
def yx (T:YTab):Nat→ACode→(Bool→AEx→St→Option Ys)→Bool→St→Option Ys
 | 0,_,_,_,_ => none
 | n + 1,c,K,al,st => match c with
  | .skip => K al .normal st
  | .reg ops => jeT T ops (fun al s => K al .normal s) al st
  | .regd ops pairs => match jhZ pairs ops st [] with
   | some s => K al .normal s
   | none => none
  | .seq x y => yx T n x (jwo (yx T n y K) K) al st
  | .cond c x y => match st.get c with
   | .p (.bool b) => match b with
    | true => yx T n x K al st
    | false => yx T n y K al st
   | _ => none
  | .block id x => yx T n x (jwp id K) al st
  | .loop x => yx T n x (jwo (yx T n (.loop x) K) K) al st
  | .exit id => K al (.exit id) st
  | .ret => K al .ret st
  | _ => none

section
variable {P:Program} {l:Nat} {vs:List (List V)} {kend:Nat}

def YM (l:Nat) (vs:List (List V)) (kend:Nat):Bool→Option Nat→Ys→Prop
 | true,some k,ys => (∀ (j:Nat) (x:List V),ys.1[j]? = some x→vs[k + j]? = some x)∧k + ys.1.length = kend∧∀ x∈ys.2,x = l
 | false,none,ys => ys = ([],[])
 | _,_,_ => False
def TOk (P:Program) (l:Nat) (T:YTab):Prop := ∀ f xs zs,T f xs = some zs→(∀ x∈zs.2,x = l)→jan P f = true∧∀ (vs:List (List V)) (k:Nat),(∀ (j:Nat) (x:List V),zs.1[j]? = some x→vs[k + j]? = some x)→jkh P l vs f xs k (k + zs.1.length)

omit [Laid] in
theorem jh0 {tr:Option Nat} {ys:Ys} (h:YM l vs kend true tr ys):∃ k,tr = some k∧(∀ (j:Nat) (x:List V),ys.1[j]? = some x→vs[k + j]? = some x)∧k + ys.1.length = kend∧∀ x∈ys.2,x = l := by
 cases tr with
 | none => exact h.elim
 | some k => exact ⟨k,rfl,h⟩

theorem jwq {T:YTab} (hT:TOk P l T) {i:AIns} {K:Bool→St→Option Ys} {al:Bool} {st:St} {ys:Ys} (h:jki T i K al st = some ys) {tr:Option Nat} (hm:YM l vs kend al tr ys) {Q:Option Nat→St→Prop}
  (hK:∀ al s zs tr,K al s = some zs→YM l vs kend al tr zs→Q tr s):jd9 P l vs tr st i Q := by
 unfold jki at h
 unfold jd9
 split at h
 ·rename_i o ho
  rw [ho]
  simp only [jbB,ho]
  split at h
  ·rename_i v hp' ha
   exact ⟨v,hp',ha,hK _ _ _ _ h hm⟩
  ·cases h
 ·rename_i s x args ho
  rw [ho]
  split at h
  ·rename_i l' xs hx hp
   split at h
   ·rename_i r h1 h2
    simp only [sJ] at h
    subst h
    obtain ⟨k,rfl,m1,m2,m3⟩ := jh0 hm
    simp only [hx]
    refine ⟨m3 l' (by simp),k,xs,rfl,?_,hp,?_,?_⟩
    ·have := m1 0 xs rfl
     rw [Nat.add_zero] at this; exact this
    ·refine hK true _ r _ h2 ⟨fun j x hj => ?_,by simp only [List.length_cons] at m2; omega,fun x hx => m3 x (by simp [hx])⟩
     have := m1 (j + 1) x (by simpa using hj)
     rw [show k + 1 + j = k + (j + 1) by omega]; exact this
    ·exact hK false _ ([],[]) none h1 rfl
   ·cases h
  ·cases h
 ·rename_i s f args ho
  rw [ho]
  split at h
  ·rename_i xs hp
   split at h
   ·rename_i zs hz
    split at h
    ·rename_i r h1 h2
     simp only [sJ] at h
     subst h
     obtain ⟨k,rfl,m1,m2,m3⟩ := jh0 hm
     obtain ⟨t1,t2⟩ := hT f xs zs hz (fun x hx => m3 x (by simp [hx]))
     refine .inl ⟨k,k + zs.1.length,xs,rfl,hp,t1,t2 vs k (fun j x hj => m1 j x ?_),?_,?_⟩
     ·rw [List.getElem?_append_left (List.getElem?_eq_some_iff.1 hj).1]; exact hj
     ·refine hK true _ r _ h2 ⟨fun j x hj => ?_,by simp only [List.length_append] at m2; omega,fun x hx => m3 x (by simp [hx])⟩
      have := m1 (zs.1.length + j) x (by rw [List.getElem?_append_right (by omega),show zs.1.length + j - zs.1.length = j by omega]; exact hj)
      rw [show k + zs.1.length + j = k + (zs.1.length + j) by omega]; exact this
     ·exact hK false _ ([],[]) none h1 rfl
    ·cases h
   ·cases h
  ·cases h

theorem jwr {T:YTab} (hT:TOk P l T) {K:Bool→St→Option Ys} {Q:Option Nat→St→Prop} (hK:∀ al s zs tr,K al s = some zs→YM l vs kend al tr zs→Q tr s) :
  ∀ (ops:List AIns) (al:Bool) (st:St) (ys:Ys) (tr:Option Nat),jeT T ops K al st = some ys→YM l vs kend al tr ys→YRun P l vs ops tr st Q
 | [],al,st,ys,tr,h,hm => hK al st ys tr h hm
 | i :: r,al,st,ys,tr,h,hm => by
  unfold jeT at h
  unfold YRun
  have next:∀ al s zs tr,jeT T r K al s = some zs→YM l vs kend al tr zs→YRun P l vs r tr s Q := fun al s zs tr h hm => jwr hT hK r al s zs tr h hm
  split at h
  ·rename_i hg
   rw [hg]
   exact jwq hT h hm next
  ·rename_i g want hg
   rw [hg]
   dsimp only
   split at h
   ·rename_i b hb
    rw [hb]
    dsimp only
    split at h
    ·rename_i e
     rw [if_pos (eq_of_beq e)]
     exact jwq hT h hm next
    ·rename_i e
     rw [if_neg (fun x => by subst x; rw [beq_self_eq_true] at e; cases e)]
     exact next _ _ _ _ h hm
   ·rename_i hb
    rw [hb]
    exact next _ _ _ _ h hm
   ·cases h
  ·cases h

theorem jkj {T:YTab} (hT:TOk P l T):∀ (n:Nat) (c:ACode) (K:Bool→AEx→St→Option Ys) (Q:Option Nat→AEx→St→Prop) (_:∀ al e s zs tr,K al e s = some zs→YM l vs kend al tr zs→Q tr e s) (al:Bool) (st:St) (ys:Ys) (tr:Option Nat),
  yx T n c K al st = some ys→YM l vs kend al tr ys→YWp P l vs c Q tr st∧∀ x,c = .loop x→YUnr P l vs x Q n tr st
 | 0,c,K,Q,_,al,st,ys,tr,h,_ => by cases h
 | n + 1,c,K,Q,hK,al,st,ys,tr,h,hm => by
  unfold yx at h
  have ih:∀ (c:ACode) (K:Bool→AEx→St→Option Ys) (Q:Option Nat→AEx→St→Prop) (_:∀ al e s zs tr,K al e s = some zs→YM l vs kend al tr zs→Q tr e s) (al:Bool) (st:St) (ys:Ys) (tr:Option Nat),yx T n c K al st = some ys→YM l vs kend al tr ys→YWp P l vs c Q tr st :=
   fun c K Q hK al st ys tr h hm => (jkj hT n c K Q hK al st ys tr h hm).1
  split at h
  ·exact ⟨hK _ _ _ _ _ h hm,fun x e => by cases e⟩
  ·rename_i ops
   exact ⟨jwr hT (K := fun al s => K al .normal s) (Q := fun tr s => Q tr .normal s) (fun al s zs tr h hm => hK al .normal s zs tr h hm) ops al st ys tr h hm,fun x e => by cases e⟩
  ·rename_i ops pairs
   split at h
   ·rename_i s hs
    exact ⟨jwn ops st [] s hs (hK _ _ _ _ _ h hm),fun x e => by cases e⟩
   ·cases h
  ·rename_i x y
   refine ⟨ih x _ (YEx.seq (YWp P l vs y Q) Q) ?_ al st ys tr h hm,fun x e => by cases e⟩
   intro al e s zs tr h hm
   cases e with
   | normal => exact ih y K Q hK al s zs tr h hm
   | exit j => exact hK _ _ _ _ _ h hm
   | ret => exact hK _ _ _ _ _ h hm
  ·rename_i o x y
   refine ⟨?_,fun x e => by cases e⟩
   unfold YWp
   split at h
   ·rename_i b hb
    rw [hb]
    dsimp only
    split at h
    ·rw [if_pos rfl]; exact ih x K Q hK al st ys tr h hm
    ·rw [if_neg (by decide)]; exact ih y K Q hK al st ys tr h hm
   ·cases h
  ·rename_i id x
   refine ⟨ih x _ (fun tr => AEx.blk id (Q tr)) ?_ al st ys tr h hm,fun x e => by cases e⟩
   intro al e s zs tr h hm
   cases e with
   | normal => exact hK _ _ _ _ _ h hm
   | exit j =>
    simp only [AEx.blk]
    simp only [jwp] at h
    split at h
    ·rename_i e
     rw [if_pos (Nat.eq_of_beq_eq_true e)]; exact hK _ _ _ _ _ h hm
    ·rename_i e
     rw [if_neg (fun x => by subst x; rw [Nat.beq_refl] at e; cases e)]; exact hK _ _ _ _ _ h hm
   | ret => exact hK _ _ _ _ _ h hm
  ·rename_i x
   have key:YUnr P l vs x Q (n + 1) tr st := by
    refine ih x _ (YEx.seq (YUnr P l vs x Q n) Q) ?_ al st ys tr h hm
    intro al e s zs tr h hm
    cases e with
    | normal => exact (jkj hT n (.loop x) K Q hK al s zs tr h hm).2 x rfl
    | exit j => exact hK _ _ _ _ _ h hm
    | ret => exact hK _ _ _ _ _ h hm
   exact ⟨jHp (n + 1) key,fun y e => by cases e; exact key⟩
  ·exact ⟨hK _ _ _ _ _ h hm,fun x e => by cases e⟩
  ·exact ⟨hK _ _ _ _ _ h hm,fun x e => by cases e⟩
  ·cases h
def jws (rs:List ARes):Bool→AEx→St→Option Ys
 | _,.exit _,_ => none
 | al,_,s => match resV s rs with
  | some (.p (.bool b)) => match b == al with
   | true => some ([],[])
   | false => none
  | _ => none
def jkk:Bool→AEx→St→Option Ys
 | _,.exit _,_ => none
 | _,_,_ => some ([],[])
abbrev YFns := List (FuncId×AFn)
def yxFn (f:FuncId):YFns→Option AFn
 | [] => none
 | (g,F) :: r => match Nat.beq g f with
  | true => some F
  | false => yxFn f r
def jkl (G:YFns) (n:Nat):Nat→YTab
 | 0 => fun _ _ => none
 | d + 1 => fun f xs => match yxFn f G with
  | some F => yx (jkl G n d) n F.code (jws F.res) true (jbq F xs)
  | none => none
theorem jwt {G:YFns} (hG:∀ f F,yxFn f G = some F→cFn P f = some F∧jan P f = true) (n:Nat):∀ d,TOk P l (jkl G n d)
 | 0 => fun f xs zs h => by cases h
 | d + 1 => fun f xs zs h he => by
  unfold jkl at h
  split at h
  ·rename_i F hF
   obtain ⟨h1,h2⟩ := hG f F hF
   refine ⟨h2,fun vs k hm => jHv h1 ?_⟩
   refine (jkj (vs := vs) (kend := k + zs.1.length) (jwt hG n d) n F.code (jws F.res) _ ?_ true _ zs (some k) h ⟨hm,rfl,he⟩).1
   intro al e s ws tr hr hy
   have fin:(∀ id,e ≠ .exit id)→(match resV s F.res with
     | some (.p (.bool b)) => match b == al with
      | true => some (([],[]):Ys)
      | false => none
     | _ => none) = some ws→(∀ id,e ≠ .exit id)∧((tr = some (k + zs.1.length)∧resV s F.res = some (.p (.bool true))) ∨ (tr = none∧resV s F.res = some (.p (.bool false)))) := by
    intro hne h2
    clear hr
    refine ⟨hne,?_⟩
    split at h2
    ·rename_i b hb
     split at h2
     ·rename_i e
      have e := eq_of_beq e
      subst e
      cases h2
      cases b with
      | true =>
       obtain ⟨k',rfl,_,m2,_⟩ := jh0 hy
       have m2:k' = k + zs.1.length := by simpa using m2
       exact .inl ⟨by rw [m2],hb⟩
      | false =>
       cases tr with
       | none => exact .inr ⟨rfl,hb⟩
       | some _ => exact hy.elim
     ·cases h2
    ·cases h2
   cases e with
   | exit j => cases hr
   | normal => exact fin (fun _ h => by cases h) hr
   | ret => exact fin (fun _ h => by cases h) hr
  ·cases h
theorem jHw {f:FuncId} {F:AFn} (hc:cFn P f = some F) (hres:F.res = []) {G:YFns} (hG:∀ f F,yxFn f G = some F→cFn P f = some F∧jan P f = true) {n d:Nat} {vs:List (List V)} {ls:Nat→List Nat} (hl:∀ l,∀ x∈ls l,x = l)
  (h:∀ l,yx (jkl G n d) n F.code jkk true (jbq F [.yld l]) = some (vs,ls l)) (hlt:Nat.blt f 1000000000 = true := by rfl):Iter P f [] vs := by
 refine jHu hc hres (fun l => ?_) hlt
 refine (jkj (vs := vs) (kend := vs.length) (jwt hG n d) n F.code jkk _ ?_ true _ (vs,ls l) (some 0) (h l) ⟨fun j x hj => by rw [Nat.zero_add]; exact hj,Nat.zero_add _,hl l⟩).1
 intro al e s ws tr hr hy
 cases e with
 | exit j => cases hr
 | normal =>
  simp only [jkk,sJ] at hr
  subst hr
  refine ⟨(fun _ h => by cases h),?_⟩
  cases al with
  | true =>
   obtain ⟨k',rfl,_,m2,_⟩ := jh0 hy
   have m2:k' = vs.length := by simpa using m2
   exact .inl (by rw [m2])
  | false =>
   cases tr with
   | none => exact .inr rfl
   | some _ => exact hy.elim
 | ret =>
  simp only [jkk,sJ] at hr
  subst hr
  refine ⟨(fun _ h => by cases h),?_⟩
  cases al with
  | true =>
   obtain ⟨k',rfl,_,m2,_⟩ := jh0 hy
   have m2:k' = vs.length := by simpa using m2
   exact .inl (by rw [m2])
  | false =>
   cases tr with
   | none => exact .inr rfl
   | some _ => exact hy.elim
end
end Go.Mx
