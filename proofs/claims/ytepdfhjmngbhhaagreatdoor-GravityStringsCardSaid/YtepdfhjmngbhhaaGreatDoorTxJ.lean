/- Layers of the walk: abstract values, operations, calls, loops, and what they do. No condition. -/
import Derived.Test.YtepdfhjmngbhhaaGreatDoorTxI
namespace Go.Mx
variable [Laid]

inductive Ent where
 | v (n:Nat) (t:Ty)
 | a (n:Nat) (t:Ty)
 | o (n s:Nat) (t:Ty)
 | c (s:Nat) (t:Ty)
 | d (s:Nat) (t:Ty)
 | q (s s1:Nat) (t:Ty)
 | qp (s s1:Nat) (p t:Ty)

abbrev Ent.ty:Ent→Ty
 | .v _ t | .a _ t | .c _ t => t
 | .o _ _ t | .d _ t | .q _ _ t => .sl t
 | .qp _ _ p t => .pr p (.sl t)
abbrev tyEs:List Ent→Ty
 | [] => .un
 | [e] => e.ty
 | e :: r => .pr e.ty (tyEs r)

inductive TCode where
 | skip
 | reg (ops:List AIns)
 | regd (ops:List AIns) (pairs:List (Nat×Nat)) (fz:List Nat)
 | seq (x y:TCode)
 | cond (c:Opd) (x y:TCode)
 | block (id:Nat) (x:TCode)
 | loop (es:List Ent) (wr chg:List Nat) (x:TCode)
 | exit (id:Nat)
 | ret
 | rng (g:Opd) (ps bs:List Nat) (es:List Ent) (wr chg:List Nat) (x y:TCode)
 | rngc (f:FuncId) (args:List Opd) (t:Nat) (ps bs:List Nat) (es:List Ent) (wr chg:List Nat) (x y:TCode)
 | frz (fz:List Nat) (x:TCode)

def TCode.erase:TCode→ACode
 | .skip => .skip
 | .reg ops => .reg ops
 | .regd ops pairs _ => .regd ops pairs
 | .seq x y => .seq x.erase y.erase
 | .cond c x y => .cond c x.erase y.erase
 | .block id x => .block id x.erase
 | .loop _ _ _ x => .loop x.erase
 | .exit id => .exit id
 | .ret => .ret
 | .rng g ps bs _ _ _ x y => .rng g ps bs x.erase y.erase
 | .rngc f args t ps bs _ _ _ x y => .rngc f args t ps bs x.erase y.erase
 | .frz _ x => x.erase

def memN (n:Nat):List Nat→Bool
 | [] => false
 | a :: r => Nat.beq a n || memN n r
def dstIs (n:Nat):List AIns→Bool
 | [] => false
 | i :: r => (match i.dst with | some d => Nat.beq d n | none => false) || dstIs n r
def TCode.dsts (n:Nat):TCode→Bool
 | .reg ops => dstIs n ops
 | .regd ops _ _ => dstIs n ops
 | .seq x y => x.dsts n || y.dsts n
 | .cond _ x y => x.dsts n || y.dsts n
 | .block _ x => x.dsts n
 | .loop _ _ _ x => x.dsts n
 | .rng _ _ bs _ _ _ _ _ => memN n bs
 | .rngc _ _ t _ bs _ _ _ _ _ => Nat.beq t n || memN n bs
 | .frz _ x => x.dsts n
 | _ => false
def dstsIn (bs:List Nat):TCode→Bool
 | .reg ops => ops.all fun i => match i.dst with | some d => memN d bs | none => true
 | .regd ops _ _ => ops.all fun i => match i.dst with | some d => memN d bs | none => true
 | .seq x y => dstsIn bs x && dstsIn bs y
 | .cond _ x y => dstsIn bs x && dstsIn bs y
 | .block _ x => dstsIn bs x
 | .loop _ _ _ x => dstsIn bs x
 | .rng _ _ bs' _ _ _ _ _ => bs'.all fun d => memN d bs
 | .rngc _ _ t _ bs' _ _ _ _ _ => memN t bs && bs'.all fun d => memN d bs
 | .frz _ x => dstsIn bs x
 | _ => true
omit [Laid] in
theorem memN_iff {n:Nat}:∀ {l:List Nat},memN n l = true ↔ n∈l
 | [] => by simp [memN]
 | a :: r => by
  simp only [memN,Bool.or_eq_true,memN_iff,List.mem_cons]
  constructor
  ·rintro (h | h)
   ·exact .inl (Nat.eq_of_beq_eq_true h).symm
   ·exact .inr h
  ·rintro (h | h)
   ·left; rw [h]; exact beq_self a
   ·exact .inr h
def killL (chg:List Nat) (v:TV):TV := match chg.any (fun s => hasS s v) with
 | true => .und
 | false => v
def killCs (chg:List Nat):TC→TC
 | .cells live cs => .cells live (cs.map (killL chg))
 | c => c
def hasCs (chg:List Nat):TC→Bool
 | .cells _ cs => cs.any (fun v => chg.any fun s => hasS s v)
 | _ => false

def cellOwn (T:TSt) (s s1:Nat) (t:Ty):TSt := writeT (allocT T s1 (.dyn true t [])) s (.cells true [.own s1 t])

def cellOwnP (T:TSt) (s s1 j:Nat) (t:Ty) (cs:List TV):TSt := writeT (allocT T s1 (.dyn true t [])) s (.cells true ((cs.map (killS s1)).set j (.own s1 t)))
def isNilC (cs:List TV) (j:Nat):Bool := match cs[j]? with
 | some .nil => true
 | _ => false

def normT (ns:Nat):List Ent→TSt→TSt
 | [],T => T
 | .o n s t :: r,T => match T.ts n with
  | .nil => match Nat.blt s ns with
   | true => normT ns r (putT (allocT T s (.dyn true t [])) (some n) (.own s t))
   | false => normT ns r T
  | _ => normT ns r T
 | .q s s1 t :: r,T => match T.c s with
  | .cells true [.nil] => match Nat.blt s ns && Nat.blt s1 ns && !Nat.beq s s1 with
   | true => normT ns r (cellOwn T s s1 t)
   | false => normT ns r T
  | _ => normT ns r T
 | .qp s s1 p t :: r,T => match T.c s with
  | .cells true cs => match isNilC cs p.n && Nat.blt s ns && Nat.blt s1 ns && !Nat.beq s s1 with
   | true => normT ns r (cellOwnP T s s1 p.n t cs)
   | false => normT ns r T
  | _ => normT ns r T
 | _ :: r,T => normT ns r T

def entGet (T:TSt):(e:Ent)→Option e.ty.den
 | .v n t => match Nat.beq t.n 1 with
  | true => imp1 t [T.ts n]
  | false => none
 | .a n t => match T.ts n with
  | .agg cs => imp1 t cs
  | _ => none
 | .o n s t => match T.ts n with
  | .own s' t' => match Nat.beq s' s && t'.beq t,T.c s with
   | true,.dyn true t' l => castL t' t l
   | _,_ => none
  | _ => none
 | .c s t => match T.c s with
  | .cells _ cs => imp1 t cs
  | _ => none
 | .d s t => match T.c s with
  | .dyn _ t' l => castL t' t l
  | _ => none
 | .q s s1 t => match T.c s with
  | .cells true [.own s' t'] => match Nat.beq s' s1 && t'.beq t,T.c s1 with
   | true,.dyn true t'' l => castL t'' t l
   | _,_ => none
  | _ => none
 | .qp s s1 p t => match T.c s with
  | .cells true cs => match Nat.beq cs.length (p.n + 1),cs.drop p.n,imp1 p (cs.take p.n) with
   | true,[.own s' t'],some x => match Nat.beq s' s1 && t'.beq t,T.c s1 with
    | true,.dyn true t'' l => match castL t'' t l with
     | some l => some (x,l)
     | none => none
    | _,_ => none
   | _,_,_ => none
  | _ => none
def packEs (T:TSt):(es:List Ent)→Option (tyEs es).den
 | [] => some ()
 | [e] => entGet T e
 | e :: q :: r => match entGet T e,packEs T (q :: r) with
  | some x,some y => some (x,y)
  | _,_ => none

def isLive:TC→Bool
 | .cells true _ => true
 | .dyn true _ _ => true
 | _ => false
def entTs (n:Nat):(e:Ent)→e.ty.den→Option TV
 | .v n' t,x => match Nat.beq n' n with
  | true => match explode t x with
   | [c] => some c
   | _ => some .und
  | false => none
 | .a n' t,x => match Nat.beq n' n with
  | true => some (.agg (explode t x))
  | false => none
 | .o n' s t,_ => match Nat.beq n' n with
  | true => some (.own s t)
  | false => none
 | _,_ => none
def entC (live:Bool) (s:Nat):(e:Ent)→e.ty.den→Option TC
 | .o _ s' t,l => match Nat.beq s' s with
  | true => some (.dyn true t l)
  | false => none
 | .c s' t,x => match Nat.beq s' s with
  | true => some (.cells live (explode t x))
  | false => none
 | .d s' t,l => match Nat.beq s' s with
  | true => some (.dyn live t l)
  | false => none
 | .q s0 s1 t,l => match Nat.beq s0 s with
  | true => some (.cells true [.own s1 t])
  | false => match Nat.beq s1 s with
   | true => some (.dyn true t l)
   | false => none
 | .qp s0 s1 p t,x => match Nat.beq s0 s with
  | true => some (.cells true (explode p x.1 ++ [.own s1 t]))
  | false => match Nat.beq s1 s with
   | true => some (.dyn true t x.2)
   | false => none
 | _,_ => none
def fillTs (n:Nat):(es:List Ent)→(tyEs es).den→Option TV
 | [],_ => none
 | [e],x => entTs n e x
 | e :: q :: r,x => match entTs n e x.1 with
  | some v => some v
  | none => fillTs n (q :: r) x.2
def fillC (live:Bool) (s:Nat):(es:List Ent)→(tyEs es).den→Option TC
 | [],_ => none
 | [e],x => entC live s e x
 | e :: q :: r,x => match entC live s e x.1 with
  | some v => some v
  | none => fillC live s (q :: r) x.2

def fill (T:TSt) (es:List Ent) (wr chg:List Nat) (ds:Nat→Bool) (x:(tyEs es).den):TSt where
 ts n := match ds n with
  | true => match fillTs n es x with
   | some v => v
   | none => .und
  | false => killL chg (T.ts n)
 c s := match memN s wr with
  | true => match fillC (isLive (T.c s)) s es x with
   | some c => c
   | none => .dead
  | false => killCs chg (T.c s)
 v s := match memN s chg with
  | true => T.v s + 1
  | false => T.v s
 w s := match memN s wr || hasCs chg (T.c s) with
  | true => T.w s + 1
  | false => T.w s

def headOk (ns:Nat) (T T' : TSt) (es:List Ent) (wr chg:List Nat) (ds:Nat→Bool):Bool :=
 (List.range ns).all (fun s => (memN s wr || Nat.beq (T'.w s) (match hasCs chg (T.c s) with | true => T.w s + 1 | false => T.w s)) && (memN s chg || Nat.beq (T'.v s) (T.v s))) &&
 es.all fun e => match e with
  | .v n _ | .a n _ => ds n
  | .o n s _ => ds n && memN s chg && memN s wr
  | .c s _ | .d s _ => memN s wr && (isLive (T'.c s) == isLive (T.c s))
  | .q s s1 _ => memN s wr && memN s1 chg && memN s1 wr
  | .qp s s1 _ _ => memN s wr && memN s1 chg && memN s1 wr
def entryOk (ns:Nat) (es:List Ent) (wr chg:List Nat) (ds:Nat→Bool):Bool :=
 chg.all (fun s => Nat.blt s ns) && es.all fun e => match e with
  | .v n _ | .a n _ => ds n
  | .o n s _ => ds n && memN s chg && memN s wr
  | .c s _ | .d s _ => memN s wr
  | .q s s1 _ => memN s1 chg && memN s wr && memN s1 wr
  | .qp s s1 _ _ => memN s1 chg && memN s wr && memN s1 wr

def loopP {σ:Type} (body:σ→(σ→Prop)→Prop):Nat→σ→Prop
 | 0,_ => False
 | n + 1,x => body x (loopP body n)

def rngP {α σ:Type} (body:σ→α→(σ→Prop)→Prop) (K:σ→Prop):List α→σ→Prop
 | [],y => K y
 | z :: r,y => body y z (rngP body K r)
inductive RngP {α σ:Type} (body:σ→α→(σ→Prop)→Prop) (K:σ→Prop) (l:List α) (y:σ):Prop
 | mk (h:rngP body K l y):RngP body K l y
omit [Laid] in
theorem RngP.open {α σ:Type} {body:σ→α→(σ→Prop)→Prop} {K:σ→Prop} {l:List α} {y:σ} (h:RngP body K l y):rngP body K l y := by cases h with | mk h => exact h

def maskTT (bs:List Nat) (T:TSt):TSt := { T with ts := fun n => match memN n bs with | true => .und | false => T.ts n }
def putsTT:List Nat→List TV→TSt→TSt
 | p :: ps,v :: vs,T => putsTT ps vs (putT T (some p) v)
 | _,_,T => T

def rngOk (X:Cx) (g:Opd) (ps bs:List Nat) (n:Nat) (es:List Ent) (wr chg:List Nat) (x y:TCode):Bool :=
 (match g with | .t k => !memN k bs | .c _ => true) && ps.all (fun p => memN p bs && Nat.blt p X.nt) && Nat.beq ps.length n && dstsIn bs x && dstsIn bs y && entryOk X.ns es wr chg (fun n => memN n bs)

def rngcOk (X:Cx) (T:TSt) (args:List Opd) (t:Nat) (ps bs:List Nat) (es:List Ent) (wr chg:List Nat) (x y:TCode):Bool :=
 Nat.blt t X.nt && ((args.map fun x => unoptA (T.raw x)).flatMap slotsT).isEmpty && ps.all (fun p => memN p bs && Nat.blt p X.nt) && Nat.beq ps.length 1 && dstsIn bs x && dstsIn bs y && entryOk X.ns es wr chg (fun n => memN n bs)

def TCode.isLoop:TCode→Bool
 | .loop .. => true
 | _ => false

def tev (X:Cx):TCode→(AEx→TSt→Prop)→TSt→Prop
 | .skip,k,T => k .normal T
 | .reg ops,k,T => trun X ops T (k .normal)
 | .regd ops pairs fz,k,T => match fz.all (fun t => Nat.ble X.m t) with
  | true => trunD X pairs ops (frzT T fz) [] (k .normal)
  | false => False
 | .seq x y,k,T => tev X x (fun e T' => match e with
  | .normal => tev X y k T'
  | e => k e T') T
 | .cond c x y,k,T => match unopt (T.raw c) with
  | .b b => (b = true→tev X x k T)∧(b = false→tev X y k T)
  | .nb n => (n = 0→tev X x k T)∧tev X y k T
  | _ => False
 | .block id x,k,T => tev X x (fun e T' => match e with
  | .exit j => match Nat.beq j id with
   | true => k .normal T'
   | false => k (.exit j) T'
  | e => k e T') T
 | .loop es wr chg x,k,T => match entryOk X.ns es wr chg (fun n => x.dsts n),packEs (normT X.ns es T) es with
  | true,some x0 => ∃ n,loopP (fun y kn => tev X x (fun e T' => match e with
    | .normal => match headOk X.ns (normT X.ns es T) (normT X.ns es T') es wr chg (fun n => x.dsts n),packEs (normT X.ns es T') es with
     | true,some z => kn z
     | _,_ => False
    | e => k e T') (fill (normT X.ns es T) es wr chg (fun n => x.dsts n) y)) n x0
  | _,_ => False
 | .exit id,k,T => k (.exit id) T
 | .ret,k,T => k .ret T
 | .frz fz x,k,T => match x.isLoop && fz.all (fun t => Nat.ble X.m t) with
  | true => tev X x k (frzT T fz)
  | false => False
 | .rng g ps bs es wr chg x y,k,T => match T.raw g with
  | .fn f caps => match findC f itMark X.C with
   | some ⟨.fn _ ts :: a :: as,[.one (.sl t)],pre,fn⟩ => match packFn ts caps,rngOk X g ps bs (as.length + 1) es wr chg x y,packEs (normT X.ns es T) es with
    | some x0,true,some y0 => match castL t (tyPs (a :: as)) (fn (x0,(tyPs (a :: as)).dflt)) with
     | some l => conj (pre (x0,(tyPs (a :: as)).dflt)) (RngP (fun s z kn => tev X x (fun e T' => match e with
       | .normal => tev X y (fun e T'' => match e with
        | .normal => match headOk X.ns (normT X.ns es T) (normT X.ns es (maskTT bs T'')) es wr chg (fun n => memN n bs),packEs (normT X.ns es (maskTT bs T'')) es with
         | true,some s' => kn s'
         | _,_ => False
        | e => k e (maskTT bs T'')) T'
       | _ => False) (putsTT ps (tvPs (a :: as) z) (fill (normT X.ns es T) es wr chg (fun n => memN n bs) s)))
       (fun s => k .normal (fill (normT X.ns es T) es wr chg (fun n => memN n bs) s)) l y0)
     | none => False
    | _,_,_ => False
   | _ => False
  | _ => False
 | .rngc f args t ps bs es wr chg x y,k,T => match findC f itMark X.C with
  | some ⟨.one a :: as,[.one (.sl e)],pre,fn⟩ => match packPs T.c (.one a :: as) (args.map fun x => unoptA (T.raw x)),rngcOk X T args t ps bs es wr chg x y,packEs (normT X.ns es (putT T (some t) .und)) es with
   | some x0,true,some y0 => conj (pre x0) (RngP (α := e.den) (fun s z kn => tev X x (fun e T' => match e with
       | .normal => tev X y (fun e T'' => match e with
        | .normal => match headOk X.ns (normT X.ns es (putT T (some t) .und)) (normT X.ns es (maskTT bs T'')) es wr chg (fun n => memN n bs),packEs (normT X.ns es (maskTT bs T'')) es with
         | true,some s' => kn s'
         | _,_ => False
        | e => k e (maskTT bs T'')) T'
       | _ => False) (putsTT ps (tvPs [.one e] z) (fill (normT X.ns es (putT T (some t) .und)) es wr chg (fun n => memN n bs) s)))
       (fun s => k .normal (fill (normT X.ns es (putT T (some t) .und)) es wr chg (fun n => memN n bs) s)) (fn x0) y0)
   | _,_,_ => False
  | _ => False

section
variable {E:Env} {P:Program} {X:Cx} {T:TSt} {st:St}

omit [Laid] in
theorem dstIs_cons {n:Nat} {i:AIns} {r:List AIns} (h:dstIs n (i :: r) = false):i.dst ≠ some n∧dstIs n r = false := by
 simp only [dstIs,Bool.or_eq_false_iff] at h
 refine ⟨fun e => ?_,h.2⟩
 rw [e] at h
 simp at h

theorem trun_sound (hC:ConsOk P X.C):∀ {l:List AIns} {E:Env} {T:TSt} {st:St} {k:TSt→Prop},Conc X.nt X.ns E T st→trun X l T k →
  ARun P X.m l st (fun st' => ∃ E' T',k T'∧Conc X.nt X.ns E' T' st'∧Hist E T E' T'∧∀ n,dstIs n l = false→st'.get (.t n) = st.get (.t n))
 | [],E,T,st,k,h,hk => ⟨E,T,hk,h,.refl _ _,fun _ _ => rfl⟩
 | i :: r,E,T,st,k,h,hk => by
  have next:∀ {v:V} {hp' : List Blk} {E' : Env} {T' : TSt},Conc X.nt X.ns E' T' (St.put ⟨st.ts,hp'⟩ i.dst v)→Hist E T E' T'→trun X r T' k →
    ARun P X.m r (St.put ⟨st.ts,hp'⟩ i.dst v) (fun st' => ∃ E' T',k T'∧Conc X.nt X.ns E' T' st'∧Hist E T E' T'∧∀ n,dstIs n (i :: r) = false→st'.get (.t n) = st.get (.t n)) := by
   intro v hp' E' T' h1 h2 h3
   refine arun_mono ?_ r _ (trun_sound hC h1 h3)
   rintro st' ⟨E2,T2,g1,g2,g3,g4⟩
   refine ⟨E2,T2,g1,g2,h2.trans g3,fun n hn => ?_⟩
   obtain ⟨n1,n2⟩ := dstIs_cons hn
   rw [g4 n n2,put_get n1]
  rcases tins_sound (P := P) hC h hk with ⟨hg,v,hp',E',T',fp,h1,_,h2,h3,h4⟩ | ⟨g,want,b,hg,hb,hb2,h1,h2⟩
  ·simp only [ARun,hg]
   exact astep_of h1 (next h2 h3 h4)
  ·rcases hb with hb | ⟨c,hb,hcb⟩
   ·simp only [ARun,hg,hb]
    obtain ⟨E',T',fp,q2,q3,q4⟩ := h2 (hb2 hb)
    exact next (hp' := st.hp) q2 q3 q4
   ·simp only [ARun,hg,hb]
    by_cases e:c = want
    ·rw [if_pos e]
     obtain ⟨v,hp',E',T',fp,q1,_,q2,q3,q4⟩ := h1 (hcb.1 e)
     exact astep_of q1 (next q2 q3 q4)
    ·rw [if_neg e]
     obtain ⟨E',T',fp,q2,q3,q4⟩ := h2 (fun x => e (hcb.2 x))
     exact next (hp' := st.hp) q2 q3 q4

def FsLe (F F' : List (List Nat×List Nat)):Prop := F.length = F'.length∧∀ i,FpLe (F.getD i ([],[])) (F'.getD i ([],[]))
omit [Laid] in
theorem FsLe.snoc {F F' : List (List Nat×List Nat)} {a b:List Nat×List Nat} (h:FsLe F F') (hab:FpLe a b):FsLe (F ++ [a]) (F' ++ [b]) := by
 refine ⟨by simp [h.1],fun i => ?_⟩
 have := h.2 i
 simp only [List.getD,List.getElem?_append] at this ⊢
 rw [h.1]
 split
 ·exact this
 ·rename_i hi
  cases e:i - F'.length with
  | zero => simpa using hab
  | succ j => simp; exact ⟨fun x hx => hx,fun x hx => hx⟩
omit [Laid] in
theorem disj_mono {a b a' b' : List Nat} (h:disj a' b' = true) (h1:∀ x∈a,x∈a') (h2:∀ x∈b,x∈b'):disj a b = true := by
 simp only [disj,List.all_eq_true,Bool.not_eq_true',List.contains_eq_mem,decide_eq_false_iff_not] at h ⊢
 exact fun x hx hb => h x (h1 x hx) (h2 x hb)
omit [Laid] in
theorem okF_mono {F F' : List (List Nat×List Nat)} {pairs:List (Nat×Nat)} (h:FsLe F F') (ho:okF F' pairs = true):okF F pairs = true := by
 simp only [okF,List.all_eq_true,Bool.and_eq_true] at ho ⊢
 intro p hp
 obtain ⟨h1,h2⟩ := ho p hp
 exact ⟨disj_mono h1 (h.2 p.1).1 (h.2 p.2).2,disj_mono h2 (h.2 p.2).1 (h.2 p.1).2⟩
omit [Laid] in
theorem FpLe.refl (a:List Nat×List Nat):FpLe a a := ⟨fun _ h => h,fun _ h => h⟩
omit [Laid] in
theorem FpLe.nil (a:List Nat×List Nat):FpLe ([],[]) a := ⟨fun _ h => (by cases h),fun _ h => (by cases h)⟩

theorem trunD_sound (hC:ConsOk P X.C) {pairs:List (Nat×Nat)}:∀ {l:List AIns} {E:Env} {T:TSt} {st:St} {k:TSt→Prop} {F F' : List (List Nat×List Nat)},Conc X.nt X.ns E T st→FsLe F F'→trunD X pairs l T F' k →
  ARunD P X.m pairs l st F (fun st' => ∃ E' T',k T'∧Conc X.nt X.ns E' T' st'∧Hist E T E' T'∧∀ n,dstIs n l = false→st'.get (.t n) = st.get (.t n))
 | [],E,T,st,k,F,F',h,hF,hk => by
  simp only [trunD] at hk
  split at hk
  ·rename_i ho
   exact ⟨okF_mono hF ho,E,T,hk,h,.refl _ _,fun _ _ => rfl⟩
  ·exact hk.elim
 | i :: r,E,T,st,k,F,F',h,hF,hk => by
  have next:∀ {v:V} {hp' : List Blk} {E' : Env} {T' : TSt} {fp fp' : List Nat×List Nat},Conc X.nt X.ns E' T' (St.put ⟨st.ts,hp'⟩ i.dst v)→Hist E T E' T'→FpLe fp fp'→trunD X pairs r T' (F' ++ [fp']) k →
    ARunD P X.m pairs r (St.put ⟨st.ts,hp'⟩ i.dst v) (F ++ [fp]) (fun st' => ∃ E' T',k T'∧Conc X.nt X.ns E' T' st'∧Hist E T E' T'∧∀ n,dstIs n (i :: r) = false→st'.get (.t n) = st.get (.t n)) := by
   intro v hp' E' T' fp fp' h1 h2 hfp h3
   refine arund_mono ?_ r _ _ (trunD_sound hC h1 (hF.snoc hfp) h3)
   rintro st' ⟨E2,T2,g1,g2,g3,g4⟩
   refine ⟨E2,T2,g1,g2,h2.trans g3,fun n hn => ?_⟩
   obtain ⟨n1,n2⟩ := dstIs_cons hn
   rw [g4 n n2,put_get n1]
  rcases tins_sound (P := P) hC h hk with ⟨hg,v,hp',E',T',fp,h1,hfp,h2,h3,h4⟩ | ⟨g,want,b,hg,hb,hb2,h1,h2⟩
  ·simp only [ARunD,hg]
   exact ado_of h1 (next h2 h3 (by rw [hfp]; exact .refl _) h4)
  ·rcases hb with hb | ⟨c,hb,hcb⟩
   ·simp only [ARunD,hg,hb]
    obtain ⟨E',T',fp,q2,q3,q4⟩ := h2 (hb2 hb)
    exact next (hp' := st.hp) q2 q3 (.nil _) q4
   ·simp only [ARunD,hg,hb]
    by_cases e:c = want
    ·rw [if_pos e]
     obtain ⟨v,hp',E',T',fp,q1,hfp,q2,q3,q4⟩ := h1 (hcb.1 e)
     exact ado_of q1 (next q2 q3 (by rw [hfp]; exact .refl _) q4)
    ·rw [if_neg e]
     obtain ⟨E',T',fp,q2,q3,q4⟩ := h2 (fun x => e (hcb.2 x))
     exact next (hp' := st.hp) q2 q3 (.nil _) q4
end
end Go.Mx
