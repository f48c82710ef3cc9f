/- Layers of the walk: abstract values, operations, calls, loops, and what they do. No condition. -/
import Derived.Test.YtepdfhjmngbhhaaGreatDoorTxG
namespace Go.Mx
variable [Laid]

inductive PSh where
 | one (t:Ty)
 | agg (t:Ty)
 | ptr (t:Ty)
 | fn (f:FuncId) (ts:List Ty)
 /-- a slice that no more fits in -/
 | fl (e:Ty)

abbrev tyL:List Ty→Ty
 | [] => .un
 | t :: r => .pr t (tyL r)
abbrev tyP:PSh→Ty
 | .one t | .agg t | .ptr t => t
 | .fn _ ts => tyL ts
 | .fl e => .sl e
abbrev tyPs:List PSh→Ty
 | [] => .un
 | [p] => tyP p
 | p :: r => .pr (tyP p) (tyPs r)

def encsL:(ts:List Ty)→(tyL ts).den→List (List Pv)
 | [],_ => []
 | t :: r,x => t.enc x.1 :: encsL r x.2
def capsL:(ts:List Ty)→(tyL ts).den→List (Sigma Ty.den)
 | [],_ => []
 | t :: r,x => ⟨t,x.1⟩ :: capsL r x.2
omit [Laid] in
theorem caps_encs:∀ (ts:List Ty) (x:(tyL ts).den),(capsL ts x).map (fun c => c.1.enc c.2) = encsL ts x
 | [],_ => rfl
 | t :: r,x => by simp only [capsL,encsL,List.map_cons,caps_encs r]

def valP:(p:PSh)→(tyP p).den→V
 | .one t,x => match t.enc x with
  | [p] => .p p
  | _ => .und
 | .agg t,x => .agg ((t.enc x).map .p)
 | .ptr t,x => .ipt (t.enc x)
 | .fn f ts,x => .p (.fn f (encsL ts x))
 | .fl e,x => .p (.sl e.n (List.map e.enc x) true)
def valPs:(ps:List PSh)→(tyPs ps).den→List V
 | [],_ => []
 | [p],x => [valP p x]
 | p :: q :: r,x => valP p x.1 :: valPs (q :: r) x.2
def valR (rs:List PSh) (x:(tyPs rs).den):V := match valPs rs x with
 | [v] => v
 | vs => .tup vs

def tvP:(p:PSh)→(tyP p).den→TV
 | .one t,x => match explode t x with
  | [c] => c
  | _ => .und
 | .agg t,x => .agg (explode t x)
 | .ptr t,x => .ipt (explode t x)
 | .fn f ts,x => .fn f (capsL ts x)
 | .fl e,x => .fs e x
def tvPs:(ps:List PSh)→(tyPs ps).den→List TV
 | [],_ => []
 | [p],x => [tvP p x]
 | p :: q :: r,x => tvP p x.1 :: tvPs (q :: r) x.2
def tvR (rs:List PSh) (x:(tyPs rs).den):TV := match tvPs rs x with
 | [v] => v
 | vs => .tup vs

structure Con where
 ps:List PSh
 rs:List PSh
 pre:(tyPs ps).den→List Prop
 fn:(tyPs ps).den→(tyPs rs).den

def ConOk (P:Program) (f:FuncId) (c:Con):Prop := callable P f = true∧∀ x,(∀ p∈c.pre x,p)→Ret P f (valPs c.ps x) (valR c.rs (c.fn x))

abbrev Cons := List (FuncId×List FuncId×Con)
def idsEq:List FuncId→List FuncId→Bool
 | [],[] => true
 | a :: r,b :: s => Nat.beq a b && idsEq r s
 | _,_ => false
def findC (f:FuncId) (ids:List FuncId):Cons→Option Con
 | [] => none
 | x :: r => match Nat.beq x.1 f && idsEq x.2.1 ids with
  | true => some x.2.2
  | false => findC f ids r
omit [Laid] in
theorem idsEq_eq:∀ {a b:List FuncId},idsEq a b = true→a = b
 | [],[],_ => rfl
 | a :: r,b :: s,h => by
  simp only [idsEq,Bool.and_eq_true] at h
  rw [Nat.eq_of_beq_eq_true h.1,idsEq_eq h.2]
def ioMark:List FuncId := [1000000007]
def ConMOk (P:Program) (f:FuncId):Con→Prop
 | ⟨[.ptr t],[.one r,.agg t'],pre,fn⟩ => callable P f = true∧t' = t∧∀ x:t.den,(∀ p∈pre x,p)→RetM P f [.ptr 0 0 0] (t.enc x) (valR [.one r] (fn x).1) (t'.enc (fn x).2)
 | ⟨[.one u,.ptr t],[.one r,.agg t'],pre,fn⟩ => callable P f = true∧t' = t∧∀ (z:u.den) (x:t.den),(∀ p∈pre (z,x),p)→RetM P f [valP (.one u) z,.ptr 0 0 0] (t.enc x) (valR [.one r] (fn (z,x)).1) (t'.enc (fn (z,x)).2)
 | _ => False
def itMark:List FuncId := [1000000008]
def ConIOk (P:Program) (f:FuncId):Con→Prop
 | ⟨.fn g ts :: a :: as,[.one (.sl t)],pre,fn⟩ => g = f∧callI P f = true∧∃ e:t = tyPs (a :: as),∀ x:(tyL ts).den,(∀ p∈pre (x,(tyPs (a :: as)).dflt),p)→Iter P f (encsL ts x) ((e ▸ fn (x,(tyPs (a :: as)).dflt):List (tyPs (a :: as)).den).map (valPs (a :: as)))
 | ⟨.one a :: as,[.one (.sl t)],pre,fn⟩ => ∀ x:(tyPs (.one a :: as)).den,(∀ p∈pre x,p)→IterC P f (valPs (.one a :: as) x) (List.map (α := t.den) (fun z => [valP (.one t) z]) (fn x))
 | _ => False
def fstI {k:IntKind} {e:Ty} (x:(tyPs [.agg (.pr (.int k) (.sl e))]).den):Int := (show Int×List e.den from x).1
def sndL {k:IntKind} {e:Ty} (x:(tyPs [.agg (.pr (.int k) (.sl e))]).den):List e.den := (show Int×List e.den from x).2
def ownMark:List FuncId := [1000000009]
def ConOOk (P:Program) (f:FuncId):Con→Prop
 | ⟨ps,[.one (.sl e)],pre,fn⟩ => callable P f = true∧∀ x:(tyPs ps).den,(∀ p∈pre x,p)→RetO P f (valPs ps x) (fun t ver => .ref t ver 0 (fn x).length e.n) (((List.map e.enc (fn x)).flatten).map .p)
 | ⟨ps,[.agg (.sl e)],pre,fn⟩ => callable P f = true∧∀ x:(tyPs ps).den,(∀ p∈pre x,p)→RetO P f (valPs ps x) (fun t ver => .agg [.ref t ver 0 (List.length (α := e.den) (fn x)) e.n]) (((List.map e.enc (fn x)).flatten).map .p)
 | ⟨ps,[.agg (.pr (.int k) (.sl e))],pre,fn⟩ => callable P f = true∧∀ x:(tyPs ps).den,(∀ p∈pre x,p)→RetO P f (valPs ps x) (fun t ver => .agg [.p (.int k (fstI (fn x))),.ref t ver 0 (List.length (α := e.den) (sndL (fn x))) e.n]) (((List.map e.enc (sndL (fn x))).flatten).map .p)
 | _ => False
def nMark (m:Nat):List FuncId := [1000000010,m]
def slEs:V→List (List Pv)
 | .p (.sl _ es _) => es
 | _ => []
def slK:V→Nat
 | .p (.sl k _ _) => k
 | _ => 0
def ioRefs:Nat→List V→List V
 | _,[] => []
 | j,v :: vs => .ref j 0 0 (slEs v).length (slK v) :: ioRefs (j + 1) vs
def oneOf:List V→V
 | [v] => v
 | vs => .tup vs
def isSlP:PSh→Bool
 | .one (.sl e) => Nat.blt 0 e.n
 | _ => false
def psEq:List PSh→List PSh→Bool
 | [],[] => true
 | .one a :: r,.one b :: s => a.beq b && psEq r s
 | _,_ => false
def ConNOk (P:Program) (f:FuncId) (m:Nat) (c:Con):Prop :=
 callable P f = true∧m≤c.ps.length∧m≤c.rs.length∧(c.ps.drop (c.ps.length - m)).all isSlP = true∧psEq (c.ps.drop (c.ps.length - m)) (c.rs.drop (c.rs.length - m)) = true ∧
 ∀ x:(tyPs c.ps).den,(∀ p∈c.pre x,p) →
  RetN P f ((valPs c.ps x).take (c.ps.length - m) ++ ioRefs 0 ((valPs c.ps x).drop (c.ps.length - m))) (((valPs c.ps x).drop (c.ps.length - m)).map fun v => (slEs v).flatten) (oneOf ((valPs c.rs (c.fn x)).take (c.rs.length - m))) (((valPs c.rs (c.fn x)).drop (c.rs.length - m)).map fun v => (slEs v).flatten) ∧
  ((valPs c.rs (c.fn x)).drop (c.rs.length - m)).map (fun v => (slEs v).length) = ((valPs c.ps x).drop (c.ps.length - m)).map (fun v => (slEs v).length)
def isMark:List FuncId→Bool
 | [] => false
 | x :: _ => Nat.ble 1000000007 x
def ConAny (P:Program) (f:FuncId) (ids:List FuncId) (c:Con):Prop := (isMark ids = false→ConOk P f c)∧(ids = ioMark→ConMOk P f c)∧(ids = itMark→ConIOk P f c)∧(ids = ownMark→ConOOk P f c)∧∀ m,ids = nMark m→ConNOk P f m c
def ConsOk (P:Program) (C:Cons):Prop := ∀ x∈C,ConAny P x.1 x.2.1 x.2.2
theorem findC_any {P:Program} {f:FuncId} {ids:List FuncId} {c:Con}:∀ {C:Cons},ConsOk P C→findC f ids C = some c→ConAny P f ids c
 | [],_,h => by cases h
 | x :: r,hC,h => by
  simp only [findC] at h
  split at h
  ·rename_i e
   simp only [Bool.and_eq_true] at e
   simp only [sJ] at h; subst h
   have := Nat.eq_of_beq_eq_true e.1
   rw [← this,← idsEq_eq e.2]; exact hC x (by simp)
  ·exact findC_any (fun y hy => hC y (by simp [hy])) h
theorem ConsOk.nil {P:Program}:ConsOk P [] := fun _ h => by cases h
theorem ConsOk.any {P:Program} {f:FuncId} {ids:List FuncId} {c:Con} {C:Cons} (h:ConAny P f ids c) (hC:ConsOk P C):ConsOk P ((f,ids,c) :: C) := fun x hx => by
 rcases List.mem_cons.1 hx with rfl | hx
 ·exact h
 ·exact hC x hx
theorem ConsOk.cons {P:Program} {f:FuncId} {ids:List FuncId} {c:Con} {C:Cons} (h:ConOk P f c) (hC:ConsOk P C) (hm:isMark ids = false := by rfl):ConsOk P ((f,ids,c) :: C) :=
 .any ⟨fun _ => h,fun e => (by subst e; cases hm),fun e => (by subst e; cases hm),fun e => (by subst e; cases hm),fun m e => (by subst e; cases hm)⟩ hC
theorem ConsOk.consM {P:Program} {f:FuncId} {c:Con} {C:Cons} (h:ConMOk P f c) (hC:ConsOk P C):ConsOk P ((f,ioMark,c) :: C) :=
 .any ⟨fun e => (by cases e),fun _ => h,fun e => (by cases e),fun e => (by cases e),fun m e => (by cases e)⟩ hC
theorem ConsOk.consI {P:Program} {f:FuncId} {c:Con} {C:Cons} (h:ConIOk P f c) (hC:ConsOk P C):ConsOk P ((f,itMark,c) :: C) :=
 .any ⟨fun e => (by cases e),fun e => (by cases e),fun _ => h,fun e => (by cases e),fun m e => (by cases e)⟩ hC
theorem ConsOk.consO {P:Program} {f:FuncId} {c:Con} {C:Cons} (h:ConOOk P f c) (hC:ConsOk P C):ConsOk P ((f,ownMark,c) :: C) :=
 .any ⟨fun e => (by cases e),fun e => (by cases e),fun e => (by cases e),fun _ => h,fun m e => (by cases e)⟩ hC
theorem ConsOk.consN {P:Program} {f:FuncId} {m:Nat} {c:Con} {C:Cons} (h:ConNOk P f m c) (hC:ConsOk P C):ConsOk P ((f,nMark m,c) :: C) :=
 .any ⟨fun e => (by cases e),fun e => (by cases e),fun e => (by cases e),fun e => (by cases e),fun m' e => by
  simp only [nMark,List.cons.injEq,true_and,and_true] at e; subst e; exact h⟩ hC

def fnIds:List TV→List FuncId
 | [] => []
 | .clo f _ :: r => f :: fnIds r
 | .fn f _ :: r => f :: fnIds r
 | _ :: r => fnIds r

def castD (a b:Ty) (x:a.den):Option b.den :=
 match h:a.beq b with
 | true => some (Ty.beq_eq h ▸ x)
 | false => none
omit [Laid] in
theorem castD_eq {a b:Ty} {x:a.den} {y:b.den} (h:castD a b x = some y):∃ e:a = b,y = e ▸ x := by
 unfold castD at h
 split at h
 ·rename_i hb
  exact ⟨Ty.beq_eq hb,by simpa using h.symm⟩
 ·cases h

def packPtr (look:Nat→TC) (t:Ty):TV→Option t.den
 | .ptr s o [] => match look s with
  | .cells _ cs => if o≤cs.length then imp1 t (cs.drop o) else none
  | _ => none
 | .ipt cs => imp1 t cs
 | _ => none
def packCaps (look:Nat→TC):(ts:List Ty)→List TV→Option (tyL ts).den
 | [],[] => some ()
 | t :: r,c :: cs => match packPtr look t c,packCaps look r cs with
  | some x,some y => some (x,y)
  | _,_ => none
 | _,_ => none
def packFn:(ts:List Ty)→List (Sigma Ty.den)→Option (tyL ts).den
 | [],[] => some ()
 | t :: r,c :: cs => match castD c.1 t c.2,packFn r cs with
  | some x,some y => some (x,y)
  | _,_ => none
 | _,_ => none
def packP0 (look:Nat→TC):(p:PSh)→TV→Option (tyP p).den
 | .one t,v => match Nat.beq t.n 1,implode t look [v] with
  | true,some (x,[]) => some x
  | _,_ => none
 | .agg t,.agg cs => match implode t look cs with
  | some (x,[]) => some x
  | _ => none
 | .ptr t,v => packPtr look t v
 | .fn f ts,.clo f' caps => match Nat.beq f' f && Nat.blt f 1000000000 with
  | true => packCaps look ts caps
  | false => none
 | .fn f ts,.fn f' caps => match Nat.beq f' f with
  | true => packFn ts caps
  | false => none
 | _,_ => none
def packP (look:Nat→TC):(p:PSh)→TV→Option (tyP p).den
 | .fl e,.fs t l => castL t e l
 | p,v => packP0 look p (unfs v)
def packPs (look:Nat→TC):(ps:List PSh)→List TV→Option (tyPs ps).den
 | [],[] => some ()
 | [p],[v] => packP look p v
 | p :: q :: r,v :: vs => match packP look p v,packPs look (q :: r) vs with
  | some x,some y => some (x,y)
  | _,_ => none
 | _,_ => none

def slotT1:TV→List Nat
 | .ptr s _ _ | .pd s _ _ _ | .own s _ | .vc s _ _ _ | .vd s _ _ _ => [s]
 | _ => []
def slotsT:TV→List Nat
 | .agg cs => cs.flatMap slotT1
 | .clo _ cs => cs.flatMap slotT1
 | v => slotT1 v

def liveT (T:TSt) (s:Nat):Bool := match T.c s with
 | .cells true _ => true
 | .dyn true _ _ => true
 | _ => false
def frz1T (T:TSt) (s:Nat):TSt := match T.c s with
 | .cells true cs => writeT T s (.cells false cs)
 | .dyn true t l => writeT T s (.dyn false t l)
 | _ => T
def frzT (T:TSt):List Nat→TSt
 | [] => T
 | s :: r => frzT (frz1T T s) r

omit [Laid] in
theorem PvLe.refl:∀ (p:Pv),PvLe p p
 | .int k n => .int k n
 | .bool b => .bool b
 | .str s => .str s
 | .ifc b => .ifc b
 | .sl k es f => .sl k k es es f f (.inr rfl) rfl (fun e => e) (fun i e e' h1 h2 => by rw [h1] at h2; simp only [sJ] at h2; rw [h2]) (fun i e e' j x x' h1 h2 h3 h4 => by
   rw [h1] at h2; simp only [sJ] at h2; subst h2
   rw [h3] at h4; simp only [sJ] at h4; subst h4
   have hm1 := List.sizeOf_lt_of_mem (List.mem_of_getElem? h1)
   have hm2 := List.sizeOf_lt_of_mem (List.mem_of_getElem? h3)
   have:SizeOf.sizeOf x < SizeOf.sizeOf (Pv.sl k es f) := by simp; omega
   exact PvLe.refl x)
 | .fn f cap => .fn f cap cap (fun _ i e e' h1 h2 => by rw [h1] at h2; simp only [sJ] at h2; rw [h2]) rfl (fun i e e' h1 h2 => by rw [h1] at h2; simp only [sJ] at h2; rw [h2]; exact Nat.le_refl _) (fun i e e' j x x' h1 h2 h3 h4 => by
   rw [h1] at h2; simp only [sJ] at h2; subst h2
   rw [h3] at h4; simp only [sJ] at h4; subst h4
   have hm1 := List.sizeOf_lt_of_mem (List.mem_of_getElem? h1)
   have hm2 := List.sizeOf_lt_of_mem (List.mem_of_getElem? h3)
   have:SizeOf.sizeOf x < SizeOf.sizeOf (Pv.fn f cap) := by simp; omega
   exact PvLe.refl x)
 termination_by p => SizeOf.sizeOf p

def LeP (ps qs:List Pv):Prop := qs.length≤ps.length∧∀ (j:Nat) (x x' : Pv),ps[j]? = some x→qs[j]? = some x'→PvLe x x'
omit [Laid] in
theorem LeL.leP {ps qs:List Pv} (h:LeL ps qs):LeP ps qs := ⟨Nat.le_of_eq h.1,h.2⟩

section
variable {E:Env} {nt ns:Nat} {T:TSt} {st:St}

def VLe (a b:V):Prop := ∀ S w v,VRel Plc0 S w a v→VRel Plc0 S w b v
omit [Laid] in
theorem VLe.p {x y:Pv} (h:PvLe x y):VLe (.p x) (.p y) := fun S w v hv => by
 cases hv with | p _ _ hv => exact .p _ _ (h.rel hv)
omit [Laid] in
theorem VLe.refl (a:V):VLe a a := fun _ _ _ h => h
omit [Laid] in
theorem VLe.agg {ps qs:List Pv} (h:LeL ps qs):VLe (.agg (ps.map .p)) (.agg (qs.map .p)) := fun S w v hv => by
 obtain ⟨arr,rfl,hn,hc⟩ := inv_agg hv
 refine .agg _ _ (by rw [hn]; simp [h.1]) fun i c hi => ?_
 rw [List.getElem?_map] at hi
 cases hq:qs[i]? with
 | none => simp [hq] at hi
 | some q =>
  simp only [hq,Option.map_some,sJ] at hi; subst hi
  obtain ⟨p,hp⟩ := get_of_len h.1 hq
  have := hc i (.p p) (by rw [List.getElem?_map,hp]; rfl)
  cases this with | p _ _ this => exact .p _ _ ((h.2 i p q hp hq).rel this)
omit [Laid] in
theorem VLe.ipt {ps qs:List Pv} (hn:qs.length≤ps.length) (h:∀ (j:Nat) (x x' : Pv),ps[j]? = some x→qs[j]? = some x'→PvLe x x'):VLe (.ipt ps) (.ipt qs) := fun S w v hv => by
 obtain ⟨b,o,cell,rfl,h1,h2,h3⟩ := inv_ipt hv
 refine .ipt _ b o cell h1 (fun j x hx => ?_) (fun j x hx => ?_)
 ·obtain ⟨p,hp⟩ := get_of_le hn hx; exact h2 j p hp
 ·obtain ⟨p,hp⟩ := get_of_le hn hx; exact (h j p x hp hx).rel (h3 j p hp)

def VLeL (as bs:List V):Prop := bs.length = as.length∧∀ (i:Nat) (a b:V),as[i]? = some a→bs[i]? = some b→VLe a b
theorem ret_le {P:Program} {f:FuncId} {as bs:List V} {r:V} (h:VLeL as bs) (hr:Ret P f bs r):Ret P f as r := fun w S vals hn hv hS hG =>
 hr w S vals (by rw [hn,h.1]) (fun i b hb => by obtain ⟨a,ha⟩ := get_of_len h.1 hb; exact h.2 i a b ha hb _ _ _ (hv i a ha)) hS hG
theorem iterC_le {P:Program} {f:FuncId} {as bs:List V} {vs:List (List V)} (h:VLeL as bs) (hr:IterC P f bs vs):IterC P f as vs := fun w S vals hn hv hS hG =>
 hr w S vals (by rw [hn,h.1]) (fun i b hb => by obtain ⟨a,ha⟩ := get_of_len h.1 hb; exact h.2 i a b ha hb _ _ _ (hv i a ha)) hS hG
theorem reto_le {P:Program} {f:FuncId} {as bs:List V} {r:Nat→Nat→V} {cs:List V} (h:VLeL as bs) (hr:RetO P f bs r cs):RetO P f as r cs := fun w S vals hn hv hS hG =>
 hr w S vals (by rw [hn,h.1]) (fun i b hb => by obtain ⟨a,ha⟩ := get_of_len h.1 hb; exact h.2 i a b ha hb _ _ _ (hv i a ha)) hS hG

omit [Laid] in
theorem okT_slot {c:TV} {v:V} (h:TRel E c v) (hc:okT c = true):slotC v = slotT1 c := by
 cases h <;> first | rfl | simp [okT] at hc | skip
 rename_i p hp
 obtain ⟨q,h1,_⟩ := hp
 cases c <;> first | rfl | cases h1

omit [Laid] in
theorem implSl_okT {look:Nat→TC} {e:Ty} {impl:List TV→Option (e.den×List TV)} {c:TV} {l:List e.den} (h:implSl look e impl c = some l):okT c = true := by
 cases c <;> first | rfl | simp [implSl] at h

omit [Laid] in
theorem implode_okT {look:Nat→TC}:∀ (t:Ty) (cs:List TV) (x:t.den) (r:List TV),implode t look cs = some (x,r)→∃ c1,cs = c1 ++ r∧∀ c∈c1,okT c = true
 | .int k,cs,x,r,h => by
  cases cs with
  | nil => simp [implode] at h
  | cons c cs =>
   cases c with
   | i k' n =>
    simp only [implode] at h
    split at h
    ·simp only [sJ,pJ] at h; obtain ⟨_,rfl⟩ := h; exact ⟨[.i k' n],rfl,by simp [okT]⟩
    ·cases h
   | _ => simp [implode] at h
 | .bool,cs,x,r,h => by
  cases cs with
  | nil => simp [implode] at h
  | cons c cs =>
   cases c with
   | b n => simp only [implode,sJ,pJ] at h; obtain ⟨_,rfl⟩ := h; exact ⟨[.b n],rfl,by simp [okT]⟩
   | _ => simp [implode] at h
 | .err,cs,x,r,h => by
  cases cs with
  | nil => simp [implode] at h
  | cons c cs =>
   cases c with
   | e n => simp only [implode,sJ,pJ] at h; obtain ⟨_,rfl⟩ := h; exact ⟨[.e n],rfl,by simp [okT]⟩
   | _ => simp [implode] at h
 | .str,cs,x,r,h => by
  cases cs with
  | nil => simp [implode] at h
  | cons c cs =>
   cases c with
   | s n => simp only [implode,sJ,pJ] at h; obtain ⟨_,rfl⟩ := h; exact ⟨[.s n],rfl,by simp [okT]⟩
   | _ => simp [implode] at h
 | .sl e,cs,x,r,h => by
  cases cs with
  | nil => simp [implode] at h
  | cons c cs =>
   simp only [implode] at h
   split at h
   ·rename_i l hl
    simp only [sJ,pJ] at h; obtain ⟨_,rfl⟩ := h
    exact ⟨[c],rfl,by simpa using implSl_okT hl⟩
   ·cases h
 | .pr a b,cs,x,r,h => by
  simp only [implode] at h
  split at h
  ·rename_i x1 r1 h1
   split at h
   ·rename_i x2 r2 h2
    simp only [sJ,pJ] at h; obtain ⟨_,rfl⟩ := h
    obtain ⟨c1,rfl,k1⟩ := implode_okT a cs x1 r1 h1
    obtain ⟨c2,rfl,k2⟩ := implode_okT b r1 x2 r2 h2
    refine ⟨c1 ++ c2,by simp,fun c hc => ?_⟩
    rcases List.mem_append.1 hc with hc | hc
    ·exact k1 c hc
    ·exact k2 c hc
   ·cases h
  ·cases h
 | .un,cs,x,r,h => by
  simp only [implode,sJ,pJ] at h; obtain ⟨_,rfl⟩ := h; exact ⟨[],rfl,by simp⟩

omit [Laid] in
theorem flat_slot:∀ {cs:List TV} {vs:List V},LRel E cs vs→(∀ c∈cs,okT c = true)→vs.flatMap slotC = cs.flatMap slotT1
 | [],vs,h,_ => by
  have:vs = [] := List.length_eq_zero_iff.1 h.1
  subst this; rfl
 | c :: cs,vs,h,hc => by
  obtain ⟨v,vs',rfl,h1,h2⟩ := h.inv_cons
  rw [List.flatMap_cons,List.flatMap_cons,okT_slot h1 (hc c (by simp)),flat_slot h2 (fun c hc' => hc c (by simp [hc']))]

omit [Laid] in
theorem implode_pur (h:Conc nt ns E T st) {t:Ty} {cs:List TV} {x:t.den} {vs:List V} (hi:implode t T.c cs = some (x,[])) (hr:LRel E cs vs):∃ ps,optAll (purC st.hp) vs = some ps∧LeL ps (t.enc x)∧vs.flatMap slotC = cs.flatMap slotT1 := by
 obtain ⟨v1,v2,ps,rfl,h2,h3,h4,h5⟩ := implode_gen (f := purC st.hp) (fun _ => rfl) (fun e c v l hh hv => by obtain ⟨es,_,_,p,g1,g2⟩ := implSl_rel h hh hv; exact ⟨p,g1,g2⟩) t cs x [] vs hi hr
 have:v2 = [] := List.length_eq_zero_iff.1 h2.1
 subst this
 obtain ⟨c1,e,k⟩ := implode_okT t cs x [] hi
 rw [List.append_nil] at e; subst e
 rw [List.append_nil] at hr ⊢
 exact ⟨ps,h3,h4,flat_slot hr k⟩

omit [Laid] in
theorem packPtr_rel (h:Conc nt ns E T st) {t:Ty} {c:TV} {x:t.den} {v:V} (hp:packPtr T.c t c = some x) (hv:TRel E c v):∃ ps,capP st.hp v = some ps∧LeP ps (t.enc x)∧slotC v = slotT1 c := by
 unfold packPtr at hp
 split at hp
 ·rename_i s o
  split at hp
  ·rename_i live cs hl
   split at hp
   ·rename_i hle
    obtain ⟨_,rfl⟩ := hv.inv_ptr
    obtain ⟨b,q1,q2,q3,q4,q5⟩ := cells_blk h hl
    obtain ⟨ps,g1,g2,g3⟩ := imp1_rel hp (q5.drop o)
    refine ⟨ps,?_,g2.leP,rfl⟩
    have hb:behind st.hp (.ptr s (E.vr s) (o + dsOff [])) = some (b.cs.drop o) := by
     simp only [behind,q1]
     exact if_pos ⟨q2,q3,by rw [q5.1]; simpa [dsOff] using hle⟩
    simp only [capP,hb,g1,allP_mapP]
   ·cases hp
  ·cases hp
 ·rename_i cs
  obtain ⟨qs,rfl,hn,hq⟩ := hv.inv_ipt
  obtain ⟨ps,g1,g2,g3⟩ := imp1_rel hp (ipt_lrel (E := E) hn hq)
  refine ⟨qs,by simp only [capP,behind,allP_mapP],?_,rfl⟩
  have hps:ps = qs.take cs.length := by
   rw [← List.map_take] at g1
   have := congrArg allP g1
   rw [allP_mapP,allP_mapP] at this
   simpa using this.symm
  refine ⟨?_,fun j x x' h1 h2 => ?_⟩
  ·rw [g2.1,hps,List.length_take]; omega
  ·have hj:j < ps.length := by rw [← g2.1]; exact (List.getElem?_eq_some_iff.1 h2).1
   refine g2.2 j x x' ?_ h2
   rw [hps] at hj ⊢
   rw [List.getElem?_take,if_pos (by rw [List.length_take] at hj; omega)]; exact h1
 ·cases hp

omit [Laid] in
theorem VLe.fn {f:FuncId} {cap cap' : List (List Pv)} (hf:@LT.lt Nat _ f 1000000000) (hn:cap'.length = cap.length) (h:∀ (i:Nat) (e e' : List Pv),cap[i]? = some e→cap'[i]? = some e'→LeP e e'):VLe (.p (.fn f cap)) (.p (.fn f cap')) :=
 .p (.fn f cap cap' (fun h => absurd hf (Nat.not_lt.2 h)) hn (fun i e e' h1 h2 => (h i e e' h1 h2).1) (fun i e e' j x x' h1 h2 h3 h4 => (h i e e' h1 h2).2 j x x' h3 h4))

omit [Laid] in
theorem packCaps_rel (h:Conc nt ns E T st):∀ {ts:List Ty} {cs:List TV} {x:(tyL ts).den} {vs:List V},packCaps T.c ts cs = some x→LRel E cs vs →
  ∃ l,optAll (capP st.hp) vs = some l∧(encsL ts x).length = l.length∧(∀ (i:Nat) (e e' : List Pv),l[i]? = some e→(encsL ts x)[i]? = some e'→LeP e e')∧vs.flatMap slotC = cs.flatMap slotT1
 | [],[],x,vs,_,hr => by
  have:vs = [] := List.length_eq_zero_iff.1 hr.1
  subst this
  exact ⟨[],rfl,rfl,by simp,rfl⟩
 | t :: ts,c :: cs,x,vs,hp,hr => by
  simp only [packCaps] at hp
  split at hp
  ·rename_i x1 x2 h1 h2
   simp only [sJ] at hp; subst hp
   obtain ⟨v,vs',rfl,k1,k2⟩ := hr.inv_cons
   obtain ⟨ps,g1,g2,g3⟩ := packPtr_rel h h1 k1
   obtain ⟨l,q1,q2,q3,q4⟩ := packCaps_rel h h2 k2
   refine ⟨ps :: l,by simp only [optAll,g1,q1],by simp only [encsL,List.length_cons,q2],?_,by rw [List.flatMap_cons,List.flatMap_cons,g3,q4]⟩
   intro i e e' he he'
   match i with
   | 0 => simp [encsL] at he he'; subst he he'; exact g2
   | i + 1 => exact q3 i e e' (by simpa using he) (by simpa [encsL] using he')
  ·cases hp
 | [],_ :: _,_,_,hp,_ => by simp [packCaps] at hp
 | _ :: _,[],_,_,hp,_ => by simp [packCaps] at hp

omit [Laid] in
theorem packFn_eq:∀ {ts:List Ty} {caps:List (Sigma Ty.den)} {x:(tyL ts).den},packFn ts caps = some x→caps.map (fun c => c.1.enc c.2) = encsL ts x
 | [],[],_,_ => rfl
 | t :: ts,c :: cs,x,hp => by
  simp only [packFn] at hp
  split at hp
  ·rename_i x1 x2 h1 h2
   simp only [sJ] at hp; subst hp
   obtain ⟨c1,c2⟩ := c
   obtain ⟨e,he⟩ := castD_eq h1
   dsimp only at e he
   subst e; subst he
   simp only [List.map_cons,encsL,packFn_eq h2]
  ·cases hp
 | [],_ :: _,_,hp => by simp [packFn] at hp
 | _ :: _,[],_,hp => by simp [packFn] at hp

omit [Laid] in
theorem packP0_rel (h:Conc nt ns E T st) {p:PSh} {c:TV} {x:(tyP p).den} {v:V} (hp:packP0 T.c p c = some x) (hv:TRel E c v):∃ a,pur st.hp v = some a∧VLe a (valP p x)∧slots v = slotsT c := by
 cases p with
 | one t =>
  simp only [packP0] at hp
  split at hp
  ·rename_i y hn hy
   simp only [sJ] at hp; subst hp
   have hn := Nat.eq_of_beq_eq_true hn
   obtain ⟨ps,g1,g2,g3⟩ := implode_pur h hy (LRel.one hv)
   simp only [optAll] at g1
   split at g1
   ·rename_i q s hq hs
    simp only [sJ] at g1 hs; subst hs; subst g1
    have hlen:(t.enc y).length = 1 := by rw [t.enc_len,hn]
    obtain ⟨q',hq'⟩ := List.length_eq_one_iff.1 hlen
    have hle:PvLe q q' := g2.2 0 q q' rfl (by rw [hq']; rfl)
    have hval:valP (.one t) y = .p q' := by simp only [valP,hq']
    rw [hval]
    have hsl:slotC v = slotT1 c := by simpa using g3
    cases v with
    | p z =>
     simp only [purC,sJ] at hq; subst hq
     refine ⟨.p z,rfl,.p hle,?_⟩
     have:slots (.p z) = slotC (.p z) := rfl
     rw [this,hsl]
     obtain ⟨c1,he,hk⟩ := implode_okT _ _ _ _ hy
     rw [List.append_nil] at he; subst he
     have hk := hk c (by simp)
     cases hv with
     | pure _ _ hh =>
      obtain ⟨q2,hh,_⟩ := hh
      cases c <;> first | rfl | cases hh
     | opt => cases hk
     | und => cases hk
    | ref s ver o n k =>
     simp only [purC,Option.map_eq_some_iff] at hq
     obtain ⟨es,hes,rfl⟩ := hq
     refine ⟨.p (.sl k es false),by simp only [pur,hes,Option.map_some],.p hle,?_⟩
     have:slots (.ref s ver o n k) = slotC (.ref s ver o n k) := rfl
     rw [this,hsl]
     cases hv <;> rfl
    | _ => simp [purC] at hq
   ·cases g1
  ·cases hp
 | agg t =>
  cases c with
  | agg cs =>
   simp only [packP0] at hp
   split at hp
   ·rename_i y hy
    simp only [sJ] at hp; subst hp
    obtain ⟨vs,rfl,hr⟩ := hv.agg'
    obtain ⟨ps,g1,g2,g3⟩ := implode_pur h hy hr
    exact ⟨.agg (ps.map .p),by simp only [pur,g1,Option.map_some],.agg g2,g3⟩
   ·cases hp
  | _ => simp [packP0] at hp
 | ptr t =>
  have hp' : packPtr T.c t c = some x := by cases c <;> exact hp
  obtain ⟨ps,g1,g2,g3⟩ := packPtr_rel h hp' hv
  have hs:slots v = slotsT c := by
   have e1:slots v = slotC v := by
    cases v <;> first | rfl | simp [capP,behind] at g1
   have e2:slotsT c = slotT1 c := by
    cases c <;> first | rfl | simp [packPtr] at hp'
   rw [e1,e2,g3]
  cases v with
  | ptr s ver o => exact ⟨.ipt ps,by simp only [pur,g1,Option.map_some],.ipt g2.1 g2.2,hs⟩
  | ipt qs =>
   simp only [capP,behind,allP_mapP,sJ] at g1; subst g1
   exact ⟨.ipt qs,rfl,.ipt g2.1 g2.2,hs⟩
  | _ => simp [capP,behind] at g1
 | fn f ts =>
  cases c with
  | clo f' caps =>
   simp only [packP0] at hp
   split at hp
   ·rename_i hf
    simp only [Bool.and_eq_true] at hf
    have hlt:@LT.lt Nat _ f 1000000000 := Nat.le_of_ble_eq_true hf.2
    have hf := Nat.eq_of_beq_eq_true hf.1; subst hf
    obtain ⟨vs,rfl,hn,hr⟩ := hv.inv_clo
    obtain ⟨l,g1,g2,g3,g4⟩ := packCaps_rel h hp ⟨hn,hr⟩
    exact ⟨.p (.fn f' l),by simp only [pur,g1,Option.map_some],.fn hlt g2 g3,g4⟩
   ·cases hp
  | fn f' caps =>
   simp only [packP0] at hp
   split at hp
   ·rename_i hf
    have hf := Nat.eq_of_beq_eq_true hf; subst hf
    obtain ⟨p,rfl,hle⟩ := hv.inv_fn
    refine ⟨.p p,rfl,?_,rfl⟩
    rw [packFn_eq hp] at hle
    exact .p hle
   ·cases hp
  | _ => simp [packP0] at hp
 | fl e => cases c <;> simp [packP0] at hp

omit [Laid] in
theorem packP_rel (h:Conc nt ns E T st) {p:PSh} {c:TV} {x:(tyP p).den} {v:V} (hp:packP T.c p c = some x) (hv:TRel E c v):∃ a,pur st.hp v = some a∧VLe a (valP p x)∧slots v = slotsT c := by
 have old:packP0 T.c p (unfs c) = some x→∃ a,pur st.hp v = some a∧VLe a (valP p x)∧slots v = slotsT c := fun hp => by
  obtain ⟨a,g1,g2,g3⟩ := packP0_rel h hp (unfs_rel hv)
  exact ⟨a,g1,g2,by rw [g3]; unfold unfs; split <;> rfl⟩
 cases p with
 | fl e =>
  cases c with
  | fs t l =>
   simp only [packP] at hp
   obtain ⟨rfl,rfl⟩ := castL_eq hp
   cases hv with
   | pure _ p h =>
    obtain ⟨k,es,rfl,h1,h2⟩ := h.inv_fs
    exact ⟨_,rfl,.p (.sl' h1 (fun e => e) h2),rfl⟩
  | _ => exact old hp
 | _ => exact old hp

omit [Laid] in
theorem packPs_rel (h:Conc nt ns E T st):∀ {ps:List PSh} {cs:List TV} {x:(tyPs ps).den} {vs:List V},packPs T.c ps cs = some x→LRel E cs vs→∃ as,optAll (pur st.hp) vs = some as∧VLeL as (valPs ps x)∧vs.flatMap slots = cs.flatMap slotsT
 | [],[],x,vs,_,hr => by
  have:vs = [] := List.length_eq_zero_iff.1 hr.1
  subst this
  exact ⟨[],rfl,⟨rfl,by simp [valPs]⟩,rfl⟩
 | [p],[c],x,vs,hp,hr => by
  obtain ⟨v,vs',rfl,k1,k2⟩ := hr.inv_cons
  have:vs' = [] := List.length_eq_zero_iff.1 k2.1
  subst this
  obtain ⟨a,g1,g2,g3⟩ := packP_rel h hp k1
  refine ⟨[a],by simp only [optAll,g1],⟨rfl,fun i a' b' h1 h2 => ?_⟩,by simp [g3]⟩
  match i with
  | 0 => simp [valPs] at h1 h2; subst h1 h2; exact g2
  | i + 1 => simp at h1
 | p :: q :: r,c :: cs,x,vs,hp,hr => by
  simp only [packPs] at hp
  split at hp
  ·rename_i x1 x2 h1 h2
   simp only [sJ] at hp; subst hp
   obtain ⟨v,vs',rfl,k1,k2⟩ := hr.inv_cons
   obtain ⟨a,g1,g2,g3⟩ := packP_rel h h1 k1
   obtain ⟨as,q1,q2,q3⟩ := packPs_rel h h2 k2
   refine ⟨a :: as,by simp only [optAll,g1,q1],⟨by simp only [valPs,List.length_cons,q2.1],fun i a' b' e1 e2 => ?_⟩,by rw [List.flatMap_cons,List.flatMap_cons,g3,q3]⟩
   match i with
   | 0 => simp [valPs] at e1 e2; subst e1 e2; exact g2
   | i + 1 => exact q2.2 i a' b' (by simpa using e1) (by simpa [valPs] using e2)
  ·cases hp
 | [],_ :: _,_,_,hp,_ => by simp [packPs] at hp
 | [_],[],_,_,hp,_ => by simp [packPs] at hp
 | [_],_ :: _ :: _,_,_,hp,_ => by simp [packPs] at hp
 | _ :: _ :: _,[],_,_,hp,_ => by simp [packPs] at hp

omit [Laid] in
theorem LeL.refl (ps:List Pv):LeL ps ps := ⟨rfl,fun j x x' h1 h2 => by rw [h1] at h2; simp only [sJ] at h2; subst h2; exact .refl x⟩
omit [Laid] in
theorem explode_lrel {t:Ty} {x:t.den}:LRel E (explode t x) ((t.enc x).map .p) := by
 refine ⟨by rw [explode_len,List.length_map,Ty.enc_len],fun i c v hc hv => ?_⟩
 rw [List.getElem?_map] at hv
 cases hq:(t.enc x)[i]? with
 | none => simp [hq] at hv
 | some q => simp only [hq,Option.map_some,sJ] at hv; subst hv; exact .pure c q (explode_pt (.refl _) hc hq)
omit [Laid] in
theorem tvP_rel (p:PSh) (x:(tyP p).den):TRel E (tvP p x) (valP p x) := by
 cases p with
 | one t =>
  simp only [tvP]
  split
  ·rename_i c hc
   have h := explode_lrel (E := E) (t := t) (x := x)
   have hlen:(t.enc x).length = 1 := by rw [t.enc_len,← explode_len t x,hc]; rfl
   obtain ⟨q,hq⟩ := List.length_eq_one_iff.1 hlen
   simp only [valP,hq]
   rw [hc,hq] at h
   exact h.2 0 c _ rfl rfl
  ·exact .und _
 | agg t => exact explode_lrel.agg
 | ptr t =>
  have h := explode_lrel (E := E) (t := t) (x := x)
  refine .ipt _ _ (by rw [explode_len,Ty.enc_len]; exact Nat.le_refl _) fun i c p hc hp => explode_pt (.refl _) hc hp
 | fn f ts =>
  refine .ofCan rfl ?_
  rw [caps_encs]
  exact .refl _
 | fl e => exact .pure _ _ ⟨_,rfl,.refl _⟩
omit [Laid] in
theorem tvPs_rel:∀ (ps:List PSh) (x:(tyPs ps).den),LRel E (tvPs ps x) (valPs ps x)
 | [],_ => .nil
 | [p],x => .one (tvP_rel p x)
 | p :: q :: r,x => .append (.one (tvP_rel p x.1)) (tvPs_rel (q :: r) x.2)
omit [Laid] in
theorem tvR_rel (rs:List PSh) (x:(tyPs rs).den):TRel E (tvR rs x) (valR rs x) := by
 have h := tvPs_rel (E := E) rs x
 unfold tvR valR
 match h1:tvPs rs x,h2:valPs rs x,h with
 | [],[],h => exact .tup _ _ h.1 h.2
 | [c],[v],h => exact h.2 0 c v rfl rfl
 | c :: c' :: cs,v :: v' :: vs,h => exact .tup _ _ h.1 h.2
 | [],_ :: _,h => have := h.1; simp at this
 | [_],[],h => have := h.1; simp at this
 | [_],_ :: _ :: _,h => have := h.1; simp at this
 | _ :: _ :: _,[],h => have := h.1; simp at this
 | _ :: _ :: _,[_],h => have := h.1; simp at this

omit [Laid] in
theorem frz1_conc (h:Conc nt ns E T st) (s:Nat):Conc nt ns E (frz1T T s) ⟨st.ts,frz1 st.hp s⟩∧Hist E T E (frz1T T s) := by
 have same:∀ hp' : List Blk,hp'.length = ns→(∀ s',BOk E s' (T.c s') hp'[s']?)→Conc nt ns E T ⟨st.ts,hp'⟩ := fun hp' h1 h2 => ⟨h.lt,h1,fun n => by rw [get_ts]; exact h.ts n,h2,h.v0⟩
 have hlen:(frz1 st.hp s).length = ns := by
  unfold frz1; split
  ·split
   ·simp [h.lh]
   ·exact h.lh
  ·exact h.lh
 cases hT:T.c s with
 | dead =>
  have e:frz1T T s = T := by simp only [frz1T,hT]
  rw [e]
  refine ⟨same _ hlen fun s' => ?_,.refl _ _⟩
  by_cases es:s' = s
  ·subst es; rw [hT]; cases (frz1 st.hp s')[s']? <;> trivial
  ·rw [frz1_other' es]; exact h.c s'
 | cells live cs =>
  obtain ⟨b,q1,q2,q3,q4,q5⟩ := cells_blk h hT
  cases live with
  | true =>
   have e:frz1T T s = writeT T s (.cells false cs) := by simp only [frz1T,hT]
   have e2:frz1 st.hp s = st.hp.set s ⟨b.ver,.frozen,b.cs⟩ := by
    have hl:b.st.isLive = true := by rw [q4]; rfl
    simp only [frz1,q1]; exact if_pos hl
   rw [e,e2]
   exact write_conc h q1 ⟨q2,rfl,rfl,q5⟩
  | false =>
   have e:frz1T T s = T := by simp only [frz1T,hT]
   have e2:frz1 st.hp s = st.hp := by
    have hl:¬ b.st.isLive = true := by rw [q4]; simp [bst,BSt.isLive]
    simp only [frz1,q1]; exact if_neg hl
   rw [e,e2]; exact ⟨h,.refl _ _⟩
 | dyn live t l =>
  obtain ⟨b,q1,q2,q3,q4,q5⟩ := dyn_blk h hT
  cases live with
  | true =>
   have e:frz1T T s = writeT T s (.dyn false t l) := by simp only [frz1T,hT]
   have e2:frz1 st.hp s = st.hp.set s ⟨b.ver,.frozen,b.cs⟩ := by
    have hl:b.st.isLive = true := by rw [q4]; rfl
    simp only [frz1,q1]; exact if_pos hl
   rw [e,e2]
   exact write_conc h q1 ⟨q2,rfl,rfl,q5⟩
  | false =>
   have e:frz1T T s = T := by simp only [frz1T,hT]
   have e2:frz1 st.hp s = st.hp := by
    have hl:¬ b.st.isLive = true := by rw [q4]; simp [bst,BSt.isLive]
    simp only [frz1,q1]; exact if_neg hl
   rw [e,e2]; exact ⟨h,.refl _ _⟩
omit [Laid] in
theorem frz_conc:∀ {ss:List Nat} {T:TSt} {st:St},Conc nt ns E T st→Conc nt ns E (frzT T ss) ⟨st.ts,frzAll st.hp ss⟩∧Hist E T E (frzT T ss)
 | [],T,st,h => ⟨h,.refl _ _⟩
 | s :: r,T,st,h => by
  obtain ⟨h1,h2⟩ := frz1_conc h s
  obtain ⟨h3,h4⟩ := frz_conc (ss := r) h1
  exact ⟨h3,h2.trans h4⟩
omit [Laid] in
theorem live_rel (h:Conc nt ns E T st) {s:Nat} (hd:T.c s ≠ .dead):liveS st.hp s = liveT T s := by
 cases hT:T.c s with
 | dead => exact absurd hT hd
 | cells live cs =>
  obtain ⟨b,q1,q2,q3,q4,q5⟩ := cells_blk h hT
  simp only [liveS,q1,q4,liveT,hT]
  cases live <;> rfl
 | dyn live t l =>
  obtain ⟨b,q1,q2,q3,q4,q5⟩ := dyn_blk h hT
  simp only [liveS,q1,q4,liveT,hT]
  cases live <;> rfl
end
end Go.Mx
