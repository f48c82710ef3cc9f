/- Layers of the walk: abstract values, operations, calls, loops, and what they do. No condition. -/
import Derived.Test.YtcdbaepeabefnaaTxG
namespace Go.Mx
variable [Laid]

inductive PSh where
 | one (t:Ty)
 | agg (t:Ty)
 | ptr (t:Ty)
 | fn (f:FuncId) (ts:List Ty)

abbrev tyL:List Ty→Ty
 | [] => .un
 | t :: r => .pr t (tyL r)
abbrev tyP:PSh→Ty
 | .one t | .agg t | .ptr t => t
 | .fn _ ts => tyL ts
abbrev tyPs:List PSh→Ty
 | [] => .un
 | [p] => tyP p
 | p :: r => .pr (tyP p) (tyPs r)

def jcO:(ts:List Ty)→(tyL ts).den→List (List Pv)
 | [],_ => []
 | t :: r,x => t.enc x.1 :: jcO r x.2
def jjU:(ts:List Ty)→(tyL ts).den→List (Sigma Ty.den)
 | [],_ => []
 | t :: r,x => ⟨t,x.1⟩ :: jjU r x.2
omit [Laid] in
theorem jvu:∀ (ts:List Ty) (x:(tyL ts).den),(jjU ts x).map (fun c => c.1.enc c.2) = jcO ts x
 | [],_ => rfl
 | t :: r,x => by simp only [jjU,jcO,List.map_cons,jvu r]

def valP:(p:PSh)→(tyP p).den→V
 | .one t,x => match t.enc x with
  | [p] => .p p
  | _ => .und
 | .agg t,x => .agg ((t.enc x).map .p)
 | .ptr t,x => .ipt (t.enc x)
 | .fn f ts,x => .p (.fn f (jcO ts x))
def jax:(ps:List PSh)→(tyPs ps).den→List V
 | [],_ => []
 | [p],x => [valP p x]
 | p :: q :: r,x => valP p x.1 :: jax (q :: r) x.2
def valR (rs:List PSh) (x:(tyPs rs).den):V := match jax rs x with
 | [v] => v
 | vs => .tup vs

def tvP:(p:PSh)→(tyP p).den→TV
 | .one t,x => match jbo t x with
  | [c] => c
  | _ => .und
 | .agg t,x => .agg (jbo t x)
 | .ptr t,x => .ipt (jbo t x)
 | .fn f ts,x => .fn f (jjU ts x)
def tvPs:(ps:List PSh)→(tyPs ps).den→List TV
 | [],_ => []
 | [p],x => [tvP p x]
 | p :: q :: r,x => tvP p x.1 :: tvPs (q :: r) x.2
def tvR (rs:List PSh) (x:(tyPs rs).den):TV := match tvPs rs x with
 | [v] => v
 | vs => .tup vs

structure Con where
 ps:List PSh
 rs:List PSh
 pre:(tyPs ps).den→List Prop
 fn:(tyPs ps).den→(tyPs rs).den

def jau (P:Program) (f:FuncId) (c:Con):Prop := jan P f = true∧∀ x,(∀ p∈c.pre x,p)→Ret P f (jax c.ps x) (valR c.rs (c.fn x))

abbrev Cons := List (FuncId×List FuncId×Con)
def jjV:List FuncId→List FuncId→Bool
 | [],[] => true
 | a :: r,b :: s => Nat.beq a b && jjV r s
 | _,_ => false
def jd4 (f:FuncId) (ids:List FuncId):Cons→Option Con
 | [] => none
 | x :: r => match Nat.beq x.1 f && jjV x.2.1 ids with
  | true => some x.2.2
  | false => jd4 f ids r
omit [Laid] in
theorem jvv:∀ {a b:List FuncId},jjV a b = true→a = b
 | [],[],_ => rfl
 | a :: r,b :: s,h => by
  simp only [jjV,Bool.and_eq_true] at h
  rw [Nat.eq_of_beq_eq_true h.1,jvv h.2]
def jjW:List FuncId := [1000000007]
def jvw (P:Program) (f:FuncId):Con→Prop
 | ⟨[.ptr t],[.one r,.agg t'],pre,fn⟩ => jan P f = true∧t' = t∧∀ x:t.den,(∀ p∈pre x,p)→RetM P f [.ptr 0 0 0] (t.enc x) (valR [.one r] (fn x).1) (t'.enc (fn x).2)
 | ⟨[.one u,.ptr t],[.one r,.agg t'],pre,fn⟩ => jan P f = true∧t' = t∧∀ (z:u.den) (x:t.den),(∀ p∈pre (z,x),p)→RetM P f [valP (.one u) z,.ptr 0 0 0] (t.enc x) (valR [.one r] (fn (z,x)).1) (t'.enc (fn (z,x)).2)
 | _ => False
def jjX:List FuncId := [1000000008]
def joA (P:Program) (f:FuncId):Con→Prop
 | ⟨.fn g ts :: a :: as,[.one (.sl t)],pre,fn⟩ => g = f∧jf2 P f = true∧∃ e:t = tyPs (a :: as),∀ x:(tyL ts).den,(∀ p∈pre (x,(tyPs (a :: as)).dflt),p)→Iter P f (jcO ts x) ((e ▸ fn (x,(tyPs (a :: as)).dflt):List (tyPs (a :: as)).den).map (jax (a :: as)))
 | _ => False
def fstI {k:IntKind} {e:Ty} (x:(tyPs [.agg (.pr (.int k) (.sl e))]).den):Int := (show Int×List e.den from x).1
def sndL {k:IntKind} {e:Ty} (x:(tyPs [.agg (.pr (.int k) (.sl e))]).den):List e.den := (show Int×List e.den from x).2
def jjY:List FuncId := [1000000009]
def jhS (P:Program) (f:FuncId):Con→Prop
 | ⟨ps,[.one (.sl e)],pre,fn⟩ => jan P f = true∧∀ x:(tyPs ps).den,(∀ p∈pre x,p)→RetO P f (jax ps x) (fun t ver => .ref t ver 0 (fn x).length e.n) (((List.map e.enc (fn x)).flatten).map .p)
 | ⟨ps,[.agg (.sl e)],pre,fn⟩ => jan P f = true∧∀ x:(tyPs ps).den,(∀ p∈pre x,p)→RetO P f (jax ps x) (fun t ver => .agg [.ref t ver 0 (List.length (α := e.den) (fn x)) e.n]) (((List.map e.enc (fn x)).flatten).map .p)
 | ⟨ps,[.agg (.pr (.int k) (.sl e))],pre,fn⟩ => jan P f = true∧∀ x:(tyPs ps).den,(∀ p∈pre x,p)→RetO P f (jax ps x) (fun t ver => .agg [.p (.int k (fstI (fn x))),.ref t ver 0 (List.length (α := e.den) (sndL (fn x))) e.n]) (((List.map e.enc (sndL (fn x))).flatten).map .p)
 | _ => False
def jjZ (m:Nat):List FuncId := [1000000010,m]
def slEs:V→List (List Pv)
 | .p (.sl _ es _) => es
 | _ => []
def slK:V→Nat
 | .p (.sl k _ _) => k
 | _ => 0
def jfz:Nat→List V→List V
 | _,[] => []
 | j,v :: vs => .ref j 0 0 (slEs v).length (slK v) :: jfz (j + 1) vs
def jj0:List V→V
 | [v] => v
 | vs => .tup vs
def jvx:PSh→Bool
 | .one (.sl e) => Nat.blt 0 e.n
 | _ => false
def psEq:List PSh→List PSh→Bool
 | [],[] => true
 | .one a :: r,.one b :: s => a.beq b && psEq r s
 | _,_ => false
def jvy (P:Program) (f:FuncId) (m:Nat) (c:Con):Prop :=
 jan P f = true∧m≤c.ps.length∧m≤c.rs.length∧(c.ps.drop (c.ps.length - m)).all jvx = true∧psEq (c.ps.drop (c.ps.length - m)) (c.rs.drop (c.rs.length - m)) = true ∧
 ∀ x:(tyPs c.ps).den,(∀ p∈c.pre x,p) →
  RetN P f ((jax c.ps x).take (c.ps.length - m) ++ jfz 0 ((jax c.ps x).drop (c.ps.length - m))) (((jax c.ps x).drop (c.ps.length - m)).map fun v => (slEs v).flatten) (jj0 ((jax c.rs (c.fn x)).take (c.rs.length - m))) (((jax c.rs (c.fn x)).drop (c.rs.length - m)).map fun v => (slEs v).flatten) ∧
  ((jax c.rs (c.fn x)).drop (c.rs.length - m)).map (fun v => (slEs v).length) = ((jax c.ps x).drop (c.ps.length - m)).map (fun v => (slEs v).length)
def jj1:List FuncId→Bool
 | [] => false
 | x :: _ => Nat.ble 1000000007 x
def joB (P:Program) (f:FuncId) (ids:List FuncId) (c:Con):Prop := (jj1 ids = false→jau P f c)∧(ids = jjW→jvw P f c)∧(ids = jjX→joA P f c)∧(ids = jjY→jhS P f c)∧∀ m,ids = jjZ m→jvy P f m c
def jag (P:Program) (C:Cons):Prop := ∀ x∈C,joB P x.1 x.2.1 x.2.2
theorem jd5 {P:Program} {f:FuncId} {ids:List FuncId} {c:Con}:∀ {C:Cons},jag P C→jd4 f ids C = some c→joB P f ids c
 | [],_,h => by cases h
 | x :: r,hC,h => by
  simp only [jd4] at h
  split at h
  ·rename_i e
   simp only [Bool.and_eq_true] at e
   simp only [sJ] at h; subst h
   have := Nat.eq_of_beq_eq_true e.1
   rw [← this,← jvv e.2]; exact hC x (by simp)
  ·exact jd5 (fun y hy => hC y (by simp [hy])) h
theorem jag.nil {P:Program}:jag P [] := fun _ h => by cases h
theorem jag.any {P:Program} {f:FuncId} {ids:List FuncId} {c:Con} {C:Cons} (h:joB P f ids c) (hC:jag P C):jag P ((f,ids,c) :: C) := fun x hx => by
 rcases List.mem_cons.1 hx with rfl | hx
 ·exact h
 ·exact hC x hx
theorem jag.cons {P:Program} {f:FuncId} {ids:List FuncId} {c:Con} {C:Cons} (h:jau P f c) (hC:jag P C) (hm:jj1 ids = false := by rfl):jag P ((f,ids,c) :: C) :=
 .any ⟨fun _ => h,fun e => (by subst e; cases hm),fun e => (by subst e; cases hm),fun e => (by subst e; cases hm),fun m e => (by subst e; cases hm)⟩ hC
theorem jag.consM {P:Program} {f:FuncId} {c:Con} {C:Cons} (h:jvw P f c) (hC:jag P C):jag P ((f,jjW,c) :: C) :=
 .any ⟨fun e => (by cases e),fun _ => h,fun e => (by cases e),fun e => (by cases e),fun m e => (by cases e)⟩ hC
theorem jag.consI {P:Program} {f:FuncId} {c:Con} {C:Cons} (h:joA P f c) (hC:jag P C):jag P ((f,jjX,c) :: C) :=
 .any ⟨fun e => (by cases e),fun e => (by cases e),fun _ => h,fun e => (by cases e),fun m e => (by cases e)⟩ hC
theorem jag.consO {P:Program} {f:FuncId} {c:Con} {C:Cons} (h:jhS P f c) (hC:jag P C):jag P ((f,jjY,c) :: C) :=
 .any ⟨fun e => (by cases e),fun e => (by cases e),fun e => (by cases e),fun _ => h,fun m e => (by cases e)⟩ hC
theorem jag.consN {P:Program} {f:FuncId} {m:Nat} {c:Con} {C:Cons} (h:jvy P f m c) (hC:jag P C):jag P ((f,jjZ m,c) :: C) :=
 .any ⟨fun e => (by cases e),fun e => (by cases e),fun e => (by cases e),fun e => (by cases e),fun m' e => by
  simp only [jjZ,List.cons.injEq,true_and,and_true] at e; subst e; exact h⟩ hC

def jhT:List TV→List FuncId
 | [] => []
 | .clo f _ :: r => f :: jhT r
 | .fn f _ :: r => f :: jhT r
 | _ :: r => jhT r

def joC (a b:Ty) (x:a.den):Option b.den :=
 match h:a.beq b with
 | true => some (Ty.beq_eq h ▸ x)
 | false => none
omit [Laid] in
theorem jGN {a b:Ty} {x:a.den} {y:b.den} (h:joC a b x = some y):∃ e:a = b,y = e ▸ x := by
 unfold joC at h
 split at h
 ·rename_i hb
  exact ⟨Ty.beq_eq hb,by simpa using h.symm⟩
 ·cases h

def jgk (look:Nat→TC) (t:Ty):TV→Option t.den
 | .ptr s o [] => match look s with
  | .cells _ cs => if o≤cs.length then imp1 t (cs.drop o) else none
  | _ => none
 | .ipt cs => imp1 t cs
 | _ => none
def jgl (look:Nat→TC):(ts:List Ty)→List TV→Option (tyL ts).den
 | [],[] => some ()
 | t :: r,c :: cs => match jgk look t c,jgl look r cs with
  | some x,some y => some (x,y)
  | _,_ => none
 | _,_ => none
def jfA:(ts:List Ty)→List (Sigma Ty.den)→Option (tyL ts).den
 | [],[] => some ()
 | t :: r,c :: cs => match joC c.1 t c.2,jfA r cs with
  | some x,some y => some (x,y)
  | _,_ => none
 | _,_ => none
def jdb (look:Nat→TC):(p:PSh)→TV→Option (tyP p).den
 | .one t,v => match Nat.beq t.n 1,jaU t look [v] with
  | true,some (x,[]) => some x
  | _,_ => none
 | .agg t,.agg cs => match jaU t look cs with
  | some (x,[]) => some x
  | _ => none
 | .ptr t,v => jgk look t v
 | .fn f ts,.clo f' caps => match Nat.beq f' f && Nat.blt f 1000000000 with
  | true => jgl look ts caps
  | false => none
 | .fn f ts,.fn f' caps => match Nat.beq f' f with
  | true => jfA ts caps
  | false => none
 | _,_ => none
def jbI (look:Nat→TC):(ps:List PSh)→List TV→Option (tyPs ps).den
 | [],[] => some ()
 | [p],[v] => jdb look p v
 | p :: q :: r,v :: vs => match jdb look p v,jbI look (q :: r) vs with
  | some x,some y => some (x,y)
  | _,_ => none
 | _,_ => none

def jco:TV→List Nat
 | .ptr s _ _ | .pd s _ _ _ | .own s _ | .vc s _ _ _ | .vd s _ _ _ => [s]
 | _ => []
def jaN:TV→List Nat
 | .agg cs => cs.flatMap jco
 | .clo _ cs => cs.flatMap jco
 | v => jco v

def jcC (T:TSt) (s:Nat):Bool := match T.c s with
 | .cells true _ => true
 | .dyn true _ _ => true
 | _ => false
def jcp (T:TSt) (s:Nat):TSt := match T.c s with
 | .cells true cs => jb6 T s (.cells false cs)
 | .dyn true t l => jb6 T s (.dyn false t l)
 | _ => T
def frzT (T:TSt):List Nat→TSt
 | [] => T
 | s :: r => frzT (jcp T s) r

omit [Laid] in
theorem PvLe.refl:∀ (p:Pv),PvLe p p
 | .int k n => .int k n
 | .bool b => .bool b
 | .str s => .str s
 | .sl k es f => .sl k k es es f f (.inr rfl) rfl (fun e => e) (fun i e e' h1 h2 => by rw [h1] at h2; simp only [sJ] at h2; rw [h2]) (fun i e e' j x x' h1 h2 h3 h4 => by
   rw [h1] at h2; simp only [sJ] at h2; subst h2
   rw [h3] at h4; simp only [sJ] at h4; subst h4
   have hm1 := List.sizeOf_lt_of_mem (List.mem_of_getElem? h1)
   have hm2 := List.sizeOf_lt_of_mem (List.mem_of_getElem? h3)
   have:SizeOf.sizeOf x < SizeOf.sizeOf (Pv.sl k es f) := by simp; omega
   exact PvLe.refl x)
 | .fn f cap => .fn f cap cap (fun _ i e e' h1 h2 => by rw [h1] at h2; simp only [sJ] at h2; rw [h2]) rfl (fun i e e' h1 h2 => by rw [h1] at h2; simp only [sJ] at h2; rw [h2]; exact Nat.le_refl _) (fun i e e' j x x' h1 h2 h3 h4 => by
   rw [h1] at h2; simp only [sJ] at h2; subst h2
   rw [h3] at h4; simp only [sJ] at h4; subst h4
   have hm1 := List.sizeOf_lt_of_mem (List.mem_of_getElem? h1)
   have hm2 := List.sizeOf_lt_of_mem (List.mem_of_getElem? h3)
   have:SizeOf.sizeOf x < SizeOf.sizeOf (Pv.fn f cap) := by simp; omega
   exact PvLe.refl x)
 termination_by p => SizeOf.sizeOf p

def LeP (ps qs:List Pv):Prop := qs.length≤ps.length∧∀ (j:Nat) (x x' : Pv),ps[j]? = some x→qs[j]? = some x'→PvLe x x'
omit [Laid] in
theorem LeL.leP {ps qs:List Pv} (h:LeL ps qs):LeP ps qs := ⟨Nat.le_of_eq h.1,h.2⟩

section
variable {E:Env} {nt ns:Nat} {T:TSt} {st:St}

def VLe (a b:V):Prop := ∀ S w v,VRel Plc0 S w a v→VRel Plc0 S w b v
omit [Laid] in
theorem VLe.p {x y:Pv} (h:PvLe x y):VLe (.p x) (.p y) := fun S w v hv => by
 cases hv with | p _ _ hv => exact .p _ _ (h.rel hv)
omit [Laid] in
theorem VLe.refl (a:V):VLe a a := fun _ _ _ h => h
omit [Laid] in
theorem VLe.agg {ps qs:List Pv} (h:LeL ps qs):VLe (.agg (ps.map .p)) (.agg (qs.map .p)) := fun S w v hv => by
 obtain ⟨arr,rfl,hn,hc⟩ := inv_agg hv
 refine .agg _ _ (by rw [hn]; simp [h.1]) fun i c hi => ?_
 rw [List.getElem?_map] at hi
 cases hq:qs[i]? with
 | none => simp [hq] at hi
 | some q =>
  simp only [hq,Option.map_some,sJ] at hi; subst hi
  obtain ⟨p,hp⟩ := jbx h.1 hq
  have := hc i (.p p) (by rw [List.getElem?_map,hp]; rfl)
  cases this with | p _ _ this => exact .p _ _ ((h.2 i p q hp hq).rel this)
omit [Laid] in
theorem VLe.ipt {ps qs:List Pv} (hn:qs.length≤ps.length) (h:∀ (j:Nat) (x x' : Pv),ps[j]? = some x→qs[j]? = some x'→PvLe x x'):VLe (.ipt ps) (.ipt qs) := fun S w v hv => by
 obtain ⟨b,o,cell,rfl,h1,h2,h3⟩ := inv_ipt hv
 refine .ipt _ b o cell h1 (fun j x hx => ?_) (fun j x hx => ?_)
 ·obtain ⟨p,hp⟩ := jjM hn hx; exact h2 j p hp
 ·obtain ⟨p,hp⟩ := jjM hn hx; exact (h j p x hp hx).rel (h3 j p hp)

def VLeL (as bs:List V):Prop := bs.length = as.length∧∀ (i:Nat) (a b:V),as[i]? = some a→bs[i]? = some b→VLe a b
theorem jGO {P:Program} {f:FuncId} {as bs:List V} {r:V} (h:VLeL as bs) (hr:Ret P f bs r):Ret P f as r := fun w S vals hn hv hS hG =>
 hr w S vals (by rw [hn,h.1]) (fun i b hb => by obtain ⟨a,ha⟩ := jbx h.1 hb; exact h.2 i a b ha hb _ _ _ (hv i a ha)) hS hG
theorem joD {P:Program} {f:FuncId} {as bs:List V} {r:Nat→Nat→V} {cs:List V} (h:VLeL as bs) (hr:RetO P f bs r cs):RetO P f as r cs := fun w S vals hn hv hS hG =>
 hr w S vals (by rw [hn,h.1]) (fun i b hb => by obtain ⟨a,ha⟩ := jbx h.1 hb; exact h.2 i a b ha hb _ _ _ (hv i a ha)) hS hG

omit [Laid] in
theorem jeQ {c:TV} {v:V} (h:TRel E c v) (hc:okT c = true):jaK v = jco c := by
 cases h <;> first | rfl | simp [okT] at hc | skip
 rename_i p hp
 obtain ⟨q,h1,_⟩ := hp
 cases c <;> first | rfl | cases h1

omit [Laid] in
theorem joE {look:Nat→TC} {e:Ty} {impl:List TV→Option (e.den×List TV)} {c:TV} {l:List e.den} (h:jbO look e impl c = some l):okT c = true := by
 cases c <;> first | rfl | simp [jbO] at h

omit [Laid] in
theorem jj2 {look:Nat→TC}:∀ (t:Ty) (cs:List TV) (x:t.den) (r:List TV),jaU t look cs = some (x,r)→∃ c1,cs = c1 ++ r∧∀ c∈c1,okT c = true
 | .int k,cs,x,r,h => by
  cases cs with
  | nil => simp [jaU] at h
  | cons c cs =>
   cases c with
   | i k' n =>
    simp only [jaU] at h
    split at h
    ·simp only [sJ,pJ] at h; obtain ⟨_,rfl⟩ := h; exact ⟨[.i k' n],rfl,by simp [okT]⟩
    ·cases h
   | _ => simp [jaU] at h
 | .bool,cs,x,r,h => by
  cases cs with
  | nil => simp [jaU] at h
  | cons c cs =>
   cases c with
   | b n => simp only [jaU,sJ,pJ] at h; obtain ⟨_,rfl⟩ := h; exact ⟨[.b n],rfl,by simp [okT]⟩
   | _ => simp [jaU] at h
 | .str,cs,x,r,h => by
  cases cs with
  | nil => simp [jaU] at h
  | cons c cs =>
   cases c with
   | s n => simp only [jaU,sJ,pJ] at h; obtain ⟨_,rfl⟩ := h; exact ⟨[.s n],rfl,by simp [okT]⟩
   | _ => simp [jaU] at h
 | .sl e,cs,x,r,h => by
  cases cs with
  | nil => simp [jaU] at h
  | cons c cs =>
   simp only [jaU] at h
   split at h
   ·rename_i l hl
    simp only [sJ,pJ] at h; obtain ⟨_,rfl⟩ := h
    exact ⟨[c],rfl,by simpa using joE hl⟩
   ·cases h
 | .pr a b,cs,x,r,h => by
  simp only [jaU] at h
  split at h
  ·rename_i x1 r1 h1
   split at h
   ·rename_i x2 r2 h2
    simp only [sJ,pJ] at h; obtain ⟨_,rfl⟩ := h
    obtain ⟨c1,rfl,k1⟩ := jj2 a cs x1 r1 h1
    obtain ⟨c2,rfl,k2⟩ := jj2 b r1 x2 r2 h2
    refine ⟨c1 ++ c2,by simp,fun c hc => ?_⟩
    rcases List.mem_append.1 hc with hc | hc
    ·exact k1 c hc
    ·exact k2 c hc
   ·cases h
  ·cases h
 | .un,cs,x,r,h => by
  simp only [jaU,sJ,pJ] at h; obtain ⟨_,rfl⟩ := h; exact ⟨[],rfl,by simp⟩

omit [Laid] in
theorem jvz:∀ {cs:List TV} {vs:List V},LRel E cs vs→(∀ c∈cs,okT c = true)→vs.flatMap jaK = cs.flatMap jco
 | [],vs,h,_ => by
  have:vs = [] := List.length_eq_zero_iff.1 h.1
  subst this; rfl
 | c :: cs,vs,h,hc => by
  obtain ⟨v,vs',rfl,h1,h2⟩ := h.inv_cons
  rw [List.flatMap_cons,List.flatMap_cons,jeQ h1 (hc c (by simp)),jvz h2 (fun c hc' => hc c (by simp [hc']))]

omit [Laid] in
theorem jvA (h:Conc nt ns E T st) {t:Ty} {cs:List TV} {x:t.den} {vs:List V} (hi:jaU t T.c cs = some (x,[])) (hr:LRel E cs vs):∃ ps,jak (purC st.hp) vs = some ps∧LeL ps (t.enc x)∧vs.flatMap jaK = cs.flatMap jco := by
 obtain ⟨v1,v2,ps,rfl,h2,h3,h4,h5⟩ := jjR (f := purC st.hp) (fun _ => rfl) (fun e c v l hh hv => by obtain ⟨es,_,_,p,g1,g2⟩ := joz h hh hv; exact ⟨p,g1,g2⟩) t cs x [] vs hi hr
 have:v2 = [] := List.length_eq_zero_iff.1 h2.1
 subst this
 obtain ⟨c1,e,k⟩ := jj2 t cs x [] hi
 rw [List.append_nil] at e; subst e
 rw [List.append_nil] at hr ⊢
 exact ⟨ps,h3,h4,jvz hr k⟩

omit [Laid] in
theorem jvB (h:Conc nt ns E T st) {t:Ty} {c:TV} {x:t.den} {v:V} (hp:jgk T.c t c = some x) (hv:TRel E c v):∃ ps,capP st.hp v = some ps∧LeP ps (t.enc x)∧jaK v = jco c := by
 unfold jgk at hp
 split at hp
 ·rename_i s o
  split at hp
  ·rename_i live cs hl
   split at hp
   ·rename_i hle
    obtain ⟨_,rfl⟩ := hv.inv_ptr
    obtain ⟨b,q1,q2,q3,q4,q5⟩ := jeO h hl
    obtain ⟨ps,g1,g2,g3⟩ := jdm hp (q5.drop o)
    refine ⟨ps,?_,g2.leP,rfl⟩
    have hb:jbg st.hp (.ptr s (E.vr s) (o + jaP [])) = some (b.cs.drop o) := by
     simp only [jbg,q1]
     exact if_pos ⟨q2,q3,by rw [q5.1]; simpa [jaP] using hle⟩
    simp only [capP,hb,g1,jcM]
   ·cases hp
  ·cases hp
 ·rename_i cs
  obtain ⟨qs,rfl,hn,hq⟩ := hv.inv_ipt
  obtain ⟨ps,g1,g2,g3⟩ := jdm hp (jot (E := E) hn hq)
  refine ⟨qs,by simp only [capP,jbg,jcM],?_,rfl⟩
  have hps:ps = qs.take cs.length := by
   rw [← List.map_take] at g1
   have := congrArg allP g1
   rw [jcM,jcM] at this
   simpa using this.symm
  refine ⟨?_,fun j x x' h1 h2 => ?_⟩
  ·rw [g2.1,hps,List.length_take]; omega
  ·have hj:j < ps.length := by rw [← g2.1]; exact (List.getElem?_eq_some_iff.1 h2).1
   refine g2.2 j x x' ?_ h2
   rw [hps] at hj ⊢
   rw [List.getElem?_take,if_pos (by rw [List.length_take] at hj; omega)]; exact h1
 ·cases hp

omit [Laid] in
theorem VLe.fn {f:FuncId} {cap cap' : List (List Pv)} (hf:@LT.lt Nat _ f 1000000000) (hn:cap'.length = cap.length) (h:∀ (i:Nat) (e e' : List Pv),cap[i]? = some e→cap'[i]? = some e'→LeP e e'):VLe (.p (.fn f cap)) (.p (.fn f cap')) :=
 .p (.fn f cap cap' (fun h => absurd hf (Nat.not_lt.2 h)) hn (fun i e e' h1 h2 => (h i e e' h1 h2).1) (fun i e e' j x x' h1 h2 h3 h4 => (h i e e' h1 h2).2 j x x' h3 h4))

omit [Laid] in
theorem jvC (h:Conc nt ns E T st):∀ {ts:List Ty} {cs:List TV} {x:(tyL ts).den} {vs:List V},jgl T.c ts cs = some x→LRel E cs vs →
  ∃ l,jak (capP st.hp) vs = some l∧(jcO ts x).length = l.length∧(∀ (i:Nat) (e e' : List Pv),l[i]? = some e→(jcO ts x)[i]? = some e'→LeP e e')∧vs.flatMap jaK = cs.flatMap jco
 | [],[],x,vs,_,hr => by
  have:vs = [] := List.length_eq_zero_iff.1 hr.1
  subst this
  exact ⟨[],rfl,rfl,by simp,rfl⟩
 | t :: ts,c :: cs,x,vs,hp,hr => by
  simp only [jgl] at hp
  split at hp
  ·rename_i x1 x2 h1 h2
   simp only [sJ] at hp; subst hp
   obtain ⟨v,vs',rfl,k1,k2⟩ := hr.inv_cons
   obtain ⟨ps,g1,g2,g3⟩ := jvB h h1 k1
   obtain ⟨l,q1,q2,q3,q4⟩ := jvC h h2 k2
   refine ⟨ps :: l,by simp only [jak,g1,q1],by simp only [jcO,List.length_cons,q2],?_,by rw [List.flatMap_cons,List.flatMap_cons,g3,q4]⟩
   intro i e e' he he'
   match i with
   | 0 => simp [jcO] at he he'; subst he he'; exact g2
   | i + 1 => exact q3 i e e' (by simpa using he) (by simpa [jcO] using he')
  ·cases hp
 | [],_ :: _,_,_,hp,_ => by simp [jgl] at hp
 | _ :: _,[],_,_,hp,_ => by simp [jgl] at hp

omit [Laid] in
theorem joF:∀ {ts:List Ty} {caps:List (Sigma Ty.den)} {x:(tyL ts).den},jfA ts caps = some x→caps.map (fun c => c.1.enc c.2) = jcO ts x
 | [],[],_,_ => rfl
 | t :: ts,c :: cs,x,hp => by
  simp only [jfA] at hp
  split at hp
  ·rename_i x1 x2 h1 h2
   simp only [sJ] at hp; subst hp
   obtain ⟨c1,c2⟩ := c
   obtain ⟨e,he⟩ := jGN h1
   dsimp only at e he
   subst e; subst he
   simp only [List.map_cons,jcO,joF h2]
  ·cases hp
 | [],_ :: _,_,hp => by simp [jfA] at hp
 | _ :: _,[],_,hp => by simp [jfA] at hp

omit [Laid] in
theorem jj3 (h:Conc nt ns E T st) {p:PSh} {c:TV} {x:(tyP p).den} {v:V} (hp:jdb T.c p c = some x) (hv:TRel E c v):∃ a,pur st.hp v = some a∧VLe a (valP p x)∧jal v = jaN c := by
 cases p with
 | one t =>
  simp only [jdb] at hp
  split at hp
  ·rename_i y hn hy
   simp only [sJ] at hp; subst hp
   have hn := Nat.eq_of_beq_eq_true hn
   obtain ⟨ps,g1,g2,g3⟩ := jvA h hy (LRel.one hv)
   simp only [jak] at g1
   split at g1
   ·rename_i q s hq hs
    simp only [sJ] at g1 hs; subst hs; subst g1
    have hlen:(t.enc y).length = 1 := by rw [t.enc_len,hn]
    obtain ⟨q',hq'⟩ := List.length_eq_one_iff.1 hlen
    have hle:PvLe q q' := g2.2 0 q q' rfl (by rw [hq']; rfl)
    have hval:valP (.one t) y = .p q' := by simp only [valP,hq']
    rw [hval]
    have hsl:jaK v = jco c := by simpa using g3
    cases v with
    | p z =>
     simp only [purC,sJ] at hq; subst hq
     refine ⟨.p z,rfl,.p hle,?_⟩
     have:jal (.p z) = jaK (.p z) := rfl
     rw [this,hsl]
     obtain ⟨c1,he,hk⟩ := jj2 _ _ _ _ hy
     rw [List.append_nil] at he; subst he
     have hk := hk c (by simp)
     cases hv with
     | pure _ _ hh =>
      obtain ⟨q2,hh,_⟩ := hh
      cases c <;> first | rfl | cases hh
     | opt => cases hk
     | und => cases hk
    | ref s ver o n k =>
     simp only [purC,Option.map_eq_some_iff] at hq
     obtain ⟨es,hes,rfl⟩ := hq
     refine ⟨.p (.sl k es false),by simp only [pur,hes,Option.map_some],.p hle,?_⟩
     have:jal (.ref s ver o n k) = jaK (.ref s ver o n k) := rfl
     rw [this,hsl]
     cases hv <;> rfl
    | _ => simp [purC] at hq
   ·cases g1
  ·cases hp
 | agg t =>
  cases c with
  | agg cs =>
   simp only [jdb] at hp
   split at hp
   ·rename_i y hy
    simp only [sJ] at hp; subst hp
    obtain ⟨vs,rfl,hr⟩ := hv.agg'
    obtain ⟨ps,g1,g2,g3⟩ := jvA h hy hr
    exact ⟨.agg (ps.map .p),by simp only [pur,g1,Option.map_some],.agg g2,g3⟩
   ·cases hp
  | _ => simp [jdb] at hp
 | ptr t =>
  have hp' : jgk T.c t c = some x := by cases c <;> exact hp
  obtain ⟨ps,g1,g2,g3⟩ := jvB h hp' hv
  have hs:jal v = jaN c := by
   have e1:jal v = jaK v := by
    cases v <;> first | rfl | simp [capP,jbg] at g1
   have e2:jaN c = jco c := by
    cases c <;> first | rfl | simp [jgk] at hp'
   rw [e1,e2,g3]
  cases v with
  | ptr s ver o => exact ⟨.ipt ps,by simp only [pur,g1,Option.map_some],.ipt g2.1 g2.2,hs⟩
  | ipt qs =>
   simp only [capP,jbg,jcM,sJ] at g1; subst g1
   exact ⟨.ipt qs,rfl,.ipt g2.1 g2.2,hs⟩
  | _ => simp [capP,jbg] at g1
 | fn f ts =>
  cases c with
  | clo f' caps =>
   simp only [jdb] at hp
   split at hp
   ·rename_i hf
    simp only [Bool.and_eq_true] at hf
    have hlt:@LT.lt Nat _ f 1000000000 := Nat.le_of_ble_eq_true hf.2
    have hf := Nat.eq_of_beq_eq_true hf.1; subst hf
    obtain ⟨vs,rfl,hn,hr⟩ := hv.inv_clo
    obtain ⟨l,g1,g2,g3,g4⟩ := jvC h hp ⟨hn,hr⟩
    exact ⟨.p (.fn f' l),by simp only [pur,g1,Option.map_some],.fn hlt g2 g3,g4⟩
   ·cases hp
  | fn f' caps =>
   simp only [jdb] at hp
   split at hp
   ·rename_i hf
    have hf := Nat.eq_of_beq_eq_true hf; subst hf
    obtain ⟨p,rfl,hle⟩ := hv.inv_fn
    refine ⟨.p p,rfl,?_,rfl⟩
    rw [joF hp] at hle
    exact .p hle
   ·cases hp
  | _ => simp [jdb] at hp

omit [Laid] in
theorem jfB (h:Conc nt ns E T st):∀ {ps:List PSh} {cs:List TV} {x:(tyPs ps).den} {vs:List V},jbI T.c ps cs = some x→LRel E cs vs→∃ as,jak (pur st.hp) vs = some as∧VLeL as (jax ps x)∧vs.flatMap jal = cs.flatMap jaN
 | [],[],x,vs,_,hr => by
  have:vs = [] := List.length_eq_zero_iff.1 hr.1
  subst this
  exact ⟨[],rfl,⟨rfl,by simp [jax]⟩,rfl⟩
 | [p],[c],x,vs,hp,hr => by
  obtain ⟨v,vs',rfl,k1,k2⟩ := hr.inv_cons
  have:vs' = [] := List.length_eq_zero_iff.1 k2.1
  subst this
  obtain ⟨a,g1,g2,g3⟩ := jj3 h hp k1
  refine ⟨[a],by simp only [jak,g1],⟨rfl,fun i a' b' h1 h2 => ?_⟩,by simp [g3]⟩
  match i with
  | 0 => simp [jax] at h1 h2; subst h1 h2; exact g2
  | i + 1 => simp at h1
 | p :: q :: r,c :: cs,x,vs,hp,hr => by
  simp only [jbI] at hp
  split at hp
  ·rename_i x1 x2 h1 h2
   simp only [sJ] at hp; subst hp
   obtain ⟨v,vs',rfl,k1,k2⟩ := hr.inv_cons
   obtain ⟨a,g1,g2,g3⟩ := jj3 h h1 k1
   obtain ⟨as,q1,q2,q3⟩ := jfB h h2 k2
   refine ⟨a :: as,by simp only [jak,g1,q1],⟨by simp only [jax,List.length_cons,q2.1],fun i a' b' e1 e2 => ?_⟩,by rw [List.flatMap_cons,List.flatMap_cons,g3,q3]⟩
   match i with
   | 0 => simp [jax] at e1 e2; subst e1 e2; exact g2
   | i + 1 => exact q2.2 i a' b' (by simpa using e1) (by simpa [jax] using e2)
  ·cases hp
 | [],_ :: _,_,_,hp,_ => by simp [jbI] at hp
 | [_],[],_,_,hp,_ => by simp [jbI] at hp
 | [_],_ :: _ :: _,_,_,hp,_ => by simp [jbI] at hp
 | _ :: _ :: _,[],_,_,hp,_ => by simp [jbI] at hp

omit [Laid] in
theorem LeL.refl (ps:List Pv):LeL ps ps := ⟨rfl,fun j x x' h1 h2 => by rw [h1] at h2; simp only [sJ] at h2; subst h2; exact .refl x⟩
omit [Laid] in
theorem jhU {t:Ty} {x:t.den}:LRel E (jbo t x) ((t.enc x).map .p) := by
 refine ⟨by rw [jdZ,List.length_map,Ty.enc_len],fun i c v hc hv => ?_⟩
 rw [List.getElem?_map] at hv
 cases hq:(t.enc x)[i]? with
 | none => simp [hq] at hv
 | some q => simp only [hq,Option.map_some,sJ] at hv; subst hv; exact .pure c q (jhL (.refl _) hc hq)
omit [Laid] in
theorem jvD (p:PSh) (x:(tyP p).den):TRel E (tvP p x) (valP p x) := by
 cases p with
 | one t =>
  simp only [tvP]
  split
  ·rename_i c hc
   have h := jhU (E := E) (t := t) (x := x)
   have hlen:(t.enc x).length = 1 := by rw [t.enc_len,← jdZ t x,hc]; rfl
   obtain ⟨q,hq⟩ := List.length_eq_one_iff.1 hlen
   simp only [valP,hq]
   rw [hc,hq] at h
   exact h.2 0 c _ rfl rfl
  ·exact .und _
 | agg t => exact jhU.agg
 | ptr t =>
  have h := jhU (E := E) (t := t) (x := x)
  refine .ipt _ _ (by rw [jdZ,Ty.enc_len]; exact Nat.le_refl _) fun i c p hc hp => jhL (.refl _) hc hp
 | fn f ts =>
  refine .ofCan rfl ?_
  rw [jvu]
  exact .refl _
omit [Laid] in
theorem jgm:∀ (ps:List PSh) (x:(tyPs ps).den),LRel E (tvPs ps x) (jax ps x)
 | [],_ => .nil
 | [p],x => .one (jvD p x)
 | p :: q :: r,x => .append (.one (jvD p x.1)) (jgm (q :: r) x.2)
omit [Laid] in
theorem joG (rs:List PSh) (x:(tyPs rs).den):TRel E (tvR rs x) (valR rs x) := by
 have h := jgm (E := E) rs x
 unfold tvR valR
 match h1:tvPs rs x,h2:jax rs x,h with
 | [],[],h => exact .tup _ _ h.1 h.2
 | [c],[v],h => exact h.2 0 c v rfl rfl
 | c :: c' :: cs,v :: v' :: vs,h => exact .tup _ _ h.1 h.2
 | [],_ :: _,h => have := h.1; simp at this
 | [_],[],h => have := h.1; simp at this
 | [_],_ :: _ :: _,h => have := h.1; simp at this
 | _ :: _ :: _,[],h => have := h.1; simp at this
 | _ :: _ :: _,[_],h => have := h.1; simp at this

omit [Laid] in
theorem jGP (h:Conc nt ns E T st) (s:Nat):Conc nt ns E (jcp T s) ⟨st.ts,frz1 st.hp s⟩∧Hist E T E (jcp T s) := by
 have same:∀ hp' : List Blk,hp'.length = ns→(∀ s',BOk E s' (T.c s') hp'[s']?)→Conc nt ns E T ⟨st.ts,hp'⟩ := fun hp' h1 h2 => ⟨h.lt,h1,fun n => by rw [jeP]; exact h.ts n,h2,h.v0⟩
 have hlen:(frz1 st.hp s).length = ns := by
  unfold frz1; split
  ·split
   ·simp [h.lh]
   ·exact h.lh
  ·exact h.lh
 cases hT:T.c s with
 | dead =>
  have e:jcp T s = T := by simp only [jcp,hT]
  rw [e]
  refine ⟨same _ hlen fun s' => ?_,.refl _ _⟩
  by_cases es:s' = s
  ·subst es; rw [hT]; cases (frz1 st.hp s')[s']? <;> trivial
  ·rw [jui es]; exact h.c s'
 | cells live cs =>
  obtain ⟨b,q1,q2,q3,q4,q5⟩ := jeO h hT
  cases live with
  | true =>
   have e:jcp T s = jb6 T s (.cells false cs) := by simp only [jcp,hT]
   have e2:frz1 st.hp s = st.hp.set s ⟨b.ver,.frozen,b.cs⟩ := by
    have hl:b.st.isLive = true := by rw [q4]; rfl
    simp only [frz1,q1]; exact if_pos hl
   rw [e,e2]
   exact jd3 h q1 ⟨q2,rfl,rfl,q5⟩
  | false =>
   have e:jcp T s = T := by simp only [jcp,hT]
   have e2:frz1 st.hp s = st.hp := by
    have hl:¬ b.st.isLive = true := by rw [q4]; simp [bst,BSt.isLive]
    simp only [frz1,q1]; exact if_neg hl
   rw [e,e2]; exact ⟨h,.refl _ _⟩
 | dyn live t l =>
  obtain ⟨b,q1,q2,q3,q4,q5⟩ := jc8 h hT
  cases live with
  | true =>
   have e:jcp T s = jb6 T s (.dyn false t l) := by simp only [jcp,hT]
   have e2:frz1 st.hp s = st.hp.set s ⟨b.ver,.frozen,b.cs⟩ := by
    have hl:b.st.isLive = true := by rw [q4]; rfl
    simp only [frz1,q1]; exact if_pos hl
   rw [e,e2]
   exact jd3 h q1 ⟨q2,rfl,rfl,q5⟩
  | false =>
   have e:jcp T s = T := by simp only [jcp,hT]
   have e2:frz1 st.hp s = st.hp := by
    have hl:¬ b.st.isLive = true := by rw [q4]; simp [bst,BSt.isLive]
    simp only [frz1,q1]; exact if_neg hl
   rw [e,e2]; exact ⟨h,.refl _ _⟩
omit [Laid] in
theorem jd6:∀ {ss:List Nat} {T:TSt} {st:St},Conc nt ns E T st→Conc nt ns E (frzT T ss) ⟨st.ts,jaL st.hp ss⟩∧Hist E T E (frzT T ss)
 | [],T,st,h => ⟨h,.refl _ _⟩
 | s :: r,T,st,h => by
  obtain ⟨h1,h2⟩ := jGP h s
  obtain ⟨h3,h4⟩ := jd6 (ss := r) h1
  exact ⟨h3,h2.trans h4⟩
omit [Laid] in
theorem jfC (h:Conc nt ns E T st) {s:Nat} (hd:T.c s ≠ .dead):jbX st.hp s = jcC T s := by
 cases hT:T.c s with
 | dead => exact absurd hT hd
 | cells live cs =>
  obtain ⟨b,q1,q2,q3,q4,q5⟩ := jeO h hT
  simp only [jbX,q1,q4,jcC,hT]
  cases live <;> rfl
 | dyn live t l =>
  obtain ⟨b,q1,q2,q3,q4,q5⟩ := jc8 h hT
  simp only [jbX,q1,q4,jcC,hT]
  cases live <;> rfl
end
end Go.Mx
