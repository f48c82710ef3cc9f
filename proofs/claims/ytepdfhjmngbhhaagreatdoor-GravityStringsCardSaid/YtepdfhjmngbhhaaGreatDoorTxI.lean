/- Layers of the walk: abstract values, operations, calls, loops, and what they do. No condition. -/
import Derived.Test.YtepdfhjmngbhhaaGreatDoorTxH
namespace Go.Mx

structure Cx where
 nt:Nat
 ns:Nat
 m:Nat
 A:Nat→Ty
 C:Cons

def conj:List Prop→Prop→Prop
 | [],k => k
 | p :: r,k => p∧conj r k
theorem conj_iff {ps:List Prop} {k:Prop}:conj ps k ↔ (∀ p∈ps,p)∧k := by
 induction ps with
 | nil => simp [conj]
 | cons p r ih => simp only [conj,ih,List.mem_cons,forall_eq_or_imp,and_assoc]

variable [Laid]
def notDead:TC→Bool
 | .dead => false
 | _ => true

def callT (X:Cx) (T:TSt) (f:FuncId) (args:List TV):Option (List Prop×TV×List Nat) :=
 match isMark (fnIds args) with
 | true => none
 | false => match findC f (fnIds args) X.C with
  | some c => match packPs T.c c.ps args with
   | some x => match (args.flatMap slotsT).all (fun s => Nat.ble X.m s && notDead (T.c s)) with
    | true => some (c.pre x,tvR c.rs (c.fn x),args.flatMap slotsT)
    | false => none
   | none => none
  | none => none

def isData:TV→Bool
 | .i _ _ | .b _ | .s _ | .sl _ _ | .fs _ _ => true
 | _ => false
def callM (X:Cx) (T:TSt) (f:FuncId) (args:List TV):Option (List Prop×TV×TSt) :=
 match args with
 | [.ptr s 0 []] => match findC f ioMark X.C with
  | some ⟨[.ptr t],[.one r,.agg t'],pre,fn⟩ => match T.c s with
   | .cells true cs => match Nat.blt 0 t.n && Nat.beq cs.length t.n,imp1 t cs with
    | true,some x => some (pre x,tvR [.one r] (fn x).1,writeT T s (.cells true (explode t' (fn x).2)))
    | _,_ => none
   | _ => none
  | _ => none
 | [a,.ptr s 0 []] => match isData a,findC f ioMark X.C with
  | true,some ⟨[.one u,.ptr t],[.one r,.agg t'],pre,fn⟩ => match packP T.c (.one u) a,T.c s with
   | some z,.cells true cs => match Nat.blt 0 t.n && Nat.beq cs.length t.n,imp1 t cs with
    | true,some x => some (pre (z,x),tvR [.one r] (fn (z,x)).1,writeT T s (.cells true (explode t' (fn (z,x)).2)))
    | _,_ => none
   | _,_ => none
  | _,_ => none
 | _ => none

def callO (X:Cx) (T:TSt) (f:FuncId) (args:List TV) (s:Nat):Option (List Prop×TV×TSt) :=
 match findC f ownMark X.C with
 | some ⟨ps,[.one (.sl e)],pre,fn⟩ => match packPs T.c ps args,(args.flatMap slotsT).all (fun s => Nat.ble X.m s && notDead (T.c s)) && Nat.blt s X.ns with
  | some x,true => some (pre x,.own s e,allocT (frzT T (args.flatMap slotsT)) s (.dyn true e (fn x)))
  | _,_ => none
 | some ⟨ps,[.agg (.sl e)],pre,fn⟩ => match packPs T.c ps args,(args.flatMap slotsT).all (fun s => Nat.ble X.m s && notDead (T.c s)) && Nat.blt s X.ns with
  | some x,true => some (pre x,.agg [.own s e],allocT (frzT T (args.flatMap slotsT)) s (.dyn true e (fn x)))
  | _,_ => none
 | some ⟨ps,[.agg (.pr (.int k) (.sl e))],pre,fn⟩ => match packPs T.c ps args,(args.flatMap slotsT).all (fun s => Nat.ble X.m s && notDead (T.c s)) && Nat.blt s X.ns with
  | some x,true => some (pre x,.agg [.i k (fstI (fn x)),.own s e],allocT (frzT T (args.flatMap slotsT)) s (.dyn true e (sndL (fn x))))
  | _,_ => none
 | _ => none

def ownsT (look:Nat→TC):List TV→Option (List Nat×List Prop)
 | [] => some ([],[])
 | .own s t :: r => match look s,ownsT look r with
  | .dyn true t' l,some (ss,ps) => match Nat.beq t'.n t.n with
   | true => some (s :: ss,(0 < l.length) :: ps)
   | false => none
  | _,_ => none
 | _ :: _ => none
def putsC (T:TSt):List Nat→List TV→TSt
 | s :: ss,.sl e l :: r => putsC (writeT T s (.dyn true e l)) ss r
 | _,_ => T
def noDup:List Nat→Bool
 | [] => true
 | s :: r => !(r.any fun t => Nat.beq t s) && noDup r
def oneT:List TV→TV
 | [v] => v
 | vs => .tup vs
def callN (X:Cx) (T:TSt) (f:FuncId) (args:List TV) (m:Nat):Option (List Prop×TV×TSt) :=
 match findC f (nMark m) X.C with
 | some c => match packPs T.c c.ps args,ownsT T.c (args.drop (args.length - m)) with
  | some x,some (ss,ps) => match noDup ss && ((args.take (args.length - m)).flatMap slotsT).all (fun s => Nat.ble X.m s && notDead (T.c s) && !(ss.any fun t => Nat.beq t s)) && Nat.beq args.length c.ps.length && Nat.blt 0 m with
   | true => some (ps ++ c.pre x,oneT ((tvPs c.rs (c.fn x)).take (c.rs.length - m)),putsC (frzT T ((args.take (args.length - m)).flatMap slotsT)) ss ((tvPs c.rs (c.fn x)).drop (c.rs.length - m)))
   | false => none
  | _,_ => none
 | none => none
def callS (X:Cx) (T:TSt) (f:FuncId) (args:List TV) (s:Nat):Option (List Prop×TV×TSt) :=
 match callM X T f args with
 | some r => some r
 | none => match callO X T f args s with
  | some r => some r
  | none => match callN X T f args 1 with
   | some r => some r
   | none => callN X T f args 2

def argsT (raw:Opd→TV):AI→Option (FuncId×List TV)
 | .op _ => none
 | .call _ f args => some (f,args.map fun x => unoptA (raw x))
 | .callv _ x args => match unopt (raw x) with
  | .clo f caps => some (f,(args.map fun x => unoptA (raw x)) ++ caps)
  | .fn f caps => some (f,(args.map fun x => unoptA (raw x)) ++ caps.map fun c => .ipt (explode c.1 c.2))
  | _ => none
def siteI:AI→Nat
 | .op _ => 0
 | .call s _ _ => s
 | .callv s _ _ => s

def touchT (raw:Opd→TV):AOp→List Nat
 | .newz s _ | .box s _ | .bsl true s _ _ _ _ | .mk s _ _ _ _ => [s]
 | .ld1 x | .ldn _ x | .sla _ _ x _ _ | .st _ x _ => slotT1 (unopt (raw x))
 | .app s _ _ x y => s :: (slotT1 (unopt (raw x)) ++ slotT1 (unopt (raw y)))
 | _ => []

def tdoP (X:Cx) (raw:Opd→TV) (T:TSt) (op:AI):Option (List Prop×TV) := match op with
 | .op o => tpure X.A T.c raw o
 | op => match argsT raw op with
  | some (f,args) => match callT X T f args with
   | some (ps,tv,ss) => match ss.all (fun s => !liveT T s) with
    | true => some (ps,tv)
    | false => none
   | none => none
  | none => none
def tdo (X:Cx) (raw:Opd→TV) (T:TSt) (op:AI):Option (List Prop×TV×TSt) := match op with
 | .op o => match tpure X.A T.c raw o with
  | some (ps,tv) => some (ps,tv,T)
  | none => tstate X.ns X.A T raw o
 | op => match argsT raw op with
  | some (f,args) => match callS X T f args (siteI op) with
   | some r => some r
   | none => match callT X T f args with
    | some (ps,tv,ss) => some (ps,tv,frzT T ss)
    | none => none
  | none => none
def fpT (raw:Opd→TV) (T:TSt) (op:AI):List Nat×List Nat := match op with
 | .op o => (touchT raw o,if isW o then touchT raw o else [])
 | op => match argsT raw op with
  | some (_,args) => (args.flatMap slotsT ++ [siteI op],(args.flatMap slotsT).filter (liveT T) ++ [siteI op])
  | none => ([],[])

def putT (T:TSt) (d:Option Nat) (v:TV):TSt := match d with
 | some d => { T with ts := fun n => match Nat.beq n d with | true => v | false => T.ts n }
 | none => T
def dOk (nt:Nat):Option Nat→Bool
 | some d => Nat.blt d nt
 | none => true

def effB (b w:Bool) (b2 want:Bool):Bool := match w,want with
 | true,true => b && b2
 | false,true => !b && b2
 | true,false => !b || b2
 | false,false => b || b2
def guardT (want:Bool):TV→Option Bool
 | .b b => some b
 | .opt _ b w (.b b2) => some (effB b w b2 want)
 | _ => none

def tins (X:Cx) (i:AIns) (T:TSt) (k:TSt→List Nat×List Nat→Prop):Prop :=
 match dOk X.nt i.dst with
 | false => False
 | true => match i.guard with
  | none => match tdo X T.raw T i.op with
   | some (ps,tv,T') => conj ps (k (putT T' i.dst tv) (fpT T.raw T i.op))
   | none => False
  | some (some g,want) => match guardT want (T.ts g) with
   | some b => match tdoP X (fun x => rdG g want (T.raw x)) T i.op with
    | some (ps,tv) => conj ((rdGP g b want ((optsI i).map T.raw) ++ ps).map fun p => b = want→p) (k (putT T i.dst (.opt g b want tv)) (fpT (fun x => rdG g want (T.raw x)) T i.op))
    | none => match tdo X (fun x => rdG g want (T.raw x)) T i.op with
     | some (ps,tv,T') => (b = want→conj (rdGP g b want ((optsI i).map T.raw) ++ ps) (k (putT T' i.dst tv) (fpT (fun x => rdG g want (T.raw x)) T i.op)))∧(b = !want→k (putT T i.dst .no) ([],[]))
     | none => (b = want→False)∧(b = !want→k (putT T i.dst .no) ([],[]))
   | none => False
  | some (none,_) => False

def trun (X:Cx):List AIns→TSt→(TSt→Prop)→Prop
 | [],T,k => k T
 | i :: r,T,k => tins X i T fun T' _ => trun X r T' k
def trunD (X:Cx) (pairs:List (Nat×Nat)):List AIns→TSt→List (List Nat×List Nat)→(TSt→Prop)→Prop
 | [],T,F,k => match okF F pairs with
  | true => k T
  | false => False
 | i :: r,T,F,k => tins X i T fun T' fp => trunD X pairs r T' (F ++ [fp]) k

section
variable {E:Env} {P:Program} {X:Cx} {T:TSt} {st:St}

omit [Laid] in
theorem tpure_congr {A:Nat→Ty} {look:Nat→TC} {raw raw2:Opd→TV} {op:AOp} (h:∀ x∈opdsO op,raw2 x = raw x):tpure A look raw2 op = tpure A look raw op := by
 cases op
 case pick c x y =>
  simp only [opdsO,List.mem_cons,List.not_mem_nil,or_false,forall_eq_or_imp,forall_eq] at h
  cases c with
  | c => rfl
  | t g => simp only [tpure]; rw [h.1,h.2.1,h.2.2]
 case build z parts =>
  simp only [tpure]
  have:(parts.map fun p => (p.1,p.2.1,unopt (raw2 p.2.2))) = parts.map fun p => (p.1,p.2.1,unopt (raw p.2.2)) := by
   apply List.map_congr_left; intro p hp; rw [h p.2.2 (by simp only [opdsO,List.mem_map]; exact ⟨p,hp,rfl⟩)]
  rw [this]
 case bsl own s k n z parts =>
  cases own with
  | true => rfl
  | false =>
   simp only [tpure]
   have:(parts.map fun p => (p.1,p.2.1,unopt (raw2 p.2.2))) = parts.map fun p => (p.1,p.2.1,unopt (raw p.2.2)) := by
    apply List.map_congr_left; intro p hp; rw [h p.2.2 (by simp only [opdsO,List.mem_map]; exact ⟨p,hp,rfl⟩)]
   rw [this]
 case sl k x lo hi =>
  have e0:raw2 x = raw x := h x (by simp [opdsO])
  have e1:boundT (fun y => unopt (raw2 y)) lo = boundT (fun y => unopt (raw y)) lo := by
   cases lo with
   | none => rfl
   | some y => simp only [boundT]; rw [h y (by simp [opdsO])]
  have e2:boundT (fun y => unopt (raw2 y)) hi = boundT (fun y => unopt (raw y)) hi := by
   cases hi with
   | none => rfl
   | some y => simp only [boundT]; rw [h y (by simp [opdsO])]
  simp only [tpure,e0,e1,e2]
 case sl3 k x lo hi mx =>
  have e0:raw2 x = raw x := h x (by simp [opdsO])
  have e1:boundT (fun y => unopt (raw2 y)) lo = boundT (fun y => unopt (raw y)) lo := by
   cases lo with
   | none => rfl
   | some y => simp only [boundT]; rw [h y (by simp [opdsO])]
  have e2:boundT (fun y => unopt (raw2 y)) hi = boundT (fun y => unopt (raw y)) hi := by
   cases hi with
   | none => rfl
   | some y => simp only [boundT]; rw [h y (by simp [opdsO])]
  have e3:boundT (fun y => unopt (raw2 y)) (some mx) = boundT (fun y => unopt (raw y)) (some mx) := by
   simp only [boundT]; rw [h mx (by simp [opdsO])]
  simp only [tpure,e0,e1,e2,e3]
 case sla k n x lo hi =>
  have e0:raw2 x = raw x := h x (by simp [opdsO])
  have e1:boundT (fun y => unopt (raw2 y)) lo = boundT (fun y => unopt (raw y)) lo := by
   cases lo with
   | none => rfl
   | some y => simp only [boundT]; rw [h y (by simp [opdsO])]
  have e2:boundT (fun y => unopt (raw2 y)) hi = boundT (fun y => unopt (raw y)) hi := by
   cases hi with
   | none => rfl
   | some y => simp only [boundT]; rw [h y (by simp [opdsO])]
  simp only [tpure,e0,e1,e2]
 case ssl x lo hi =>
  have e0:raw2 x = raw x := h x (by simp [opdsO])
  have e1:boundT (fun y => unopt (raw2 y)) lo = boundT (fun y => unopt (raw y)) lo := by
   cases lo with
   | none => rfl
   | some y => simp only [boundT]; rw [h y (by simp [opdsO])]
  have e2:boundT (fun y => unopt (raw2 y)) hi = boundT (fun y => unopt (raw y)) hi := by
   cases hi with
   | none => rfl
   | some y => simp only [boundT]; rw [h y (by simp [opdsO])]
  simp only [tpure,e0,e1,e2]
 case clo f caps =>
  simp only [tpure]
  have:(caps.map fun c => unopt (raw2 c)) = caps.map fun c => unopt (raw c) := by
   apply List.map_congr_left; intro p hp; rw [h p hp]
  rw [this]
 case len b x =>
  have e0:raw2 x = raw x := h x (by simp [opdsO])
  cases b <;> simp only [tpure,e0]
 all_goals
  simp only [opdsO,List.mem_cons,List.not_mem_nil,or_false,forall_eq_or_imp,forall_eq] at h
  first
  | rfl
  | (simp only [tpure]; rw [h]; done)
  | (simp only [tpure]; rw [h.1,h.2]; done)
  | (simp only [tpure]; rw [h.1,h.2.1,h.2.2]; done)

omit [Laid] in
theorem tstate_congr {ns:Nat} {A:Nat→Ty} {raw raw2:Opd→TV} {op:AOp} (h:∀ x∈opdsO op,raw2 x = raw x):tstate ns A T raw2 op = tstate ns A T raw op := by
 cases op
 case bsl own s k n z parts =>
  cases own with
  | false => rfl
  | true =>
   simp only [tstate]
   have:(parts.map fun p => (p.1,p.2.1,unopt (raw2 p.2.2))) = parts.map fun p => (p.1,p.2.1,unopt (raw p.2.2)) := by
    apply List.map_congr_left; intro p hp; rw [h p.2.2 (by simp only [opdsO,List.mem_map]; exact ⟨p,hp,rfl⟩)]
   rw [this]
 all_goals
  first
  | rfl
  | (simp only [opdsO,List.mem_cons,List.not_mem_nil,or_false,forall_eq_or_imp,forall_eq] at h
     first
     | (simp only [tstate]; rw [h]; done)
     | (simp only [tstate]; rw [h.1,h.2]; done))

omit [Laid] in
theorem argsT_congr {raw raw2:Opd→TV} {i:AIns} (h:∀ x∈optsI i,raw2 x = raw x):argsT raw2 i.op = argsT raw i.op := by
 unfold optsI at h
 cases hop:i.op with
 | op o => rfl
 | call s f args =>
  rw [hop] at h
  have:(args.map fun x => unoptA (raw2 x)) = args.map fun x => unoptA (raw x) := by
   apply List.map_congr_left; intro p hp; rw [h p hp]
  simp only [argsT,this]
 | callv s x args =>
  rw [hop] at h
  have:(args.map fun x => unoptA (raw2 x)) = args.map fun x => unoptA (raw x) := by
   apply List.map_congr_left; intro p hp; rw [h p (by simp [hp])]
  simp only [argsT,this,h x (by simp)]

omit [Laid] in
theorem tdo_congr {raw raw2:Opd→TV} {i:AIns} (h:∀ x∈optsI i,raw2 x = raw x):tdo X raw2 T i.op = tdo X raw T i.op∧tdoP X raw2 T i.op = tdoP X raw T i.op∧fpT raw2 T i.op = fpT raw T i.op := by
 have ha := argsT_congr h
 unfold optsI at h
 cases hop:i.op with
 | op o =>
  rw [hop] at h
  refine ⟨by simp only [tdo,tpure_congr h,tstate_congr h],by simp only [tdoP,tpure_congr h],?_⟩
  have:touchT raw2 o = touchT raw o := by
   cases o
   case bsl own s k n z parts => cases own <;> rfl
   case app s k b x y => simp only [touchT]; rw [h x (by simp [opdsO]),h y (by simp [opdsO])]
   all_goals
    first
    | rfl
    | (simp only [touchT]; rw [h _ (by simp [opdsO])]; done)
  simp only [fpT,this]
 | call s f args => rw [hop] at ha; exact ⟨by simp only [tdo,ha],by simp only [tdoP,ha],by simp only [fpT,ha]⟩
 | callv s x args => rw [hop] at ha; exact ⟨by simp only [tdo,ha],by simp only [tdoP,ha],by simp only [fpT,ha]⟩

def DoRes (P:Program) (m:Nat) (st:St) (op:AI) (v:V) (hp' : List Blk):Prop := match op with
 | .op o => astep st.hp st.get o = some (v,hp')
 | .call s f args => CallR P m s st.hp f (args.map st.get) v hp'
 | .callv s x args => match st.get x with
  | .clo f caps => callable P f = true∧CallR P m s st.hp f (args.map st.get ++ caps) v hp'
  | .p (.fn f caps) => callable P f = true∧CallR P m s st.hp f (args.map st.get ++ caps.map .ipt) v hp'
  | _ => False

theorem astep_of {m:Nat} {i:AIns} {v:V} {hp' : List Blk} {K:St→Prop} (h:DoRes P m st i.op v hp') (hK:K (St.put ⟨st.ts,hp'⟩ i.dst v)):AStep P m st i K := by
 unfold DoRes at h
 unfold AStep
 split at h
 ·rename_i o ho; rw [ho]; exact ⟨v,hp',h,hK⟩
 ·rename_i s f args ho; rw [ho]; exact ⟨v,hp',h,hK⟩
 ·rename_i s x args ho
  rw [ho]; dsimp only
  split at h
  ·rename_i f caps hx; rw [hx]; exact ⟨h.1,v,hp',h.2,hK⟩
  ·rename_i f caps hx; rw [hx]; exact ⟨h.1,v,hp',h.2,hK⟩
  ·exact h.elim
theorem ado_of {m:Nat} {i:AIns} {v:V} {hp' : List Blk} {K:St→List Nat×List Nat→Prop} (h:DoRes P m st i.op v hp') (hK:K (St.put ⟨st.ts,hp'⟩ i.dst v) (evTouch st i.op)):ADo P m st i K := by
 unfold DoRes at h
 unfold ADo
 unfold evTouch at hK
 split at h
 ·rename_i o ho; rw [ho] at hK ⊢; exact ⟨v,hp',h,hK⟩
 ·rename_i s f args ho; rw [ho] at hK ⊢; exact ⟨v,hp',h,hK⟩
 ·rename_i s x args ho
  rw [ho] at hK ⊢; dsimp only at hK ⊢
  split at h
  ·rename_i f caps hx; rw [hx] at hK ⊢; exact ⟨h.1,v,hp',h.2,hK⟩
  ·rename_i f caps hx; rw [hx] at hK ⊢; exact ⟨h.1,v,hp',h.2,hK⟩
  ·exact h.elim

omit [Laid] in
theorem pure_hp {A:Nat→Ty} {raw:Opd→TV} {g:Opd→V} {op:AOp} {r:List Prop×TV} (h:tpure A T.c raw op = some r) (hraw:∀ x,TRel E (raw x) (g x)):touch g op = touchT raw op := by
 have sl:∀ x,unopt (raw x) ≠ .und→okT (unopt (raw x)) = true→slotC (g x) = slotT1 (unopt (raw x)) := fun x _ hk => okT_slot (unopt_rel (hraw x)) hk
 cases op
 case ld1 x =>
  simp only [touch,touchT]
  refine okT_slot (unopt_rel (hraw x)) ?_
  cases hx:unopt (raw x) <;> first | rfl | (simp only [tpure,hx,loadT] at h; cases h)
 case ldn n x =>
  simp only [touch,touchT]
  refine okT_slot (unopt_rel (hraw x)) ?_
  cases hx:unopt (raw x) <;> first | rfl | (simp only [tpure,hx,loadT] at h; cases h)
 case sla k n x lo hi =>
  simp only [touch,touchT]
  refine okT_slot (unopt_rel (hraw x)) ?_
  cases hx:unopt (raw x) <;> first | rfl | (simp only [tpure,hx] at h; cases h)
 case bsl own s k n z parts => cases own <;> rfl
 case st => simp [tpure] at h
 case app => simp [tpure] at h
 case cpy => simp [tpure] at h
 all_goals rfl

omit [Laid] in
theorem state_hp {ns:Nat} {A:Nat→Ty} {raw:Opd→TV} {g:Opd→V} {op:AOp} {r:List Prop×TV×TSt} (h:tstate ns A T raw op = some r) (hraw:∀ x,TRel E (raw x) (g x)):touch g op = touchT raw op := by
 cases op
 case st n x v =>
  simp only [touch,touchT]
  refine okT_slot (unopt_rel (hraw x)) ?_
  simp only [tstate] at h
  split at h
  ·split at h
   ·cases hx:unopt (raw x) <;> first | rfl | (simp only [hx] at h; cases h)
   ·cases h
  ·cases h
 case app s k b x y =>
  simp only [touch,touchT]
  simp only [tstate] at h
  have hx:okT (unopt (raw x)) = true := by cases hr:raw x <;> first | rfl | (simp only [hr,unoptA] at h; cases h) | (simp [hr,unoptA] at h)
  have hy:okT (unopt (raw y)) = true := by
   split at h
   ·split at h
    ·split at h
     ·rename_i l hl; exact implSl_okT hl
     ·cases h
    ·cases h
   ·split at h
    ·split at h
     ·rename_i l hl; exact implSl_okT hl
     ·cases h
    ·cases h
   ·split at h
    ·split at h
     ·split at h
      ·rename_i l hl; exact implSl_okT hl
      ·cases h
     ·cases h
    ·cases h
   ·cases h
  rw [okT_slot (unopt_rel (hraw x)) hx,okT_slot (unopt_rel (hraw y)) hy]
 case bsl own s k n z parts => cases own <;> rfl
 case ld1 => simp [tstate] at h
 case ldn => simp [tstate] at h
 case sla => simp [tstate] at h
 case cpy => simp [tstate] at h
 all_goals rfl

omit [Laid] in
theorem args_lrel {raw:Opd→TV} {g:Opd→V} (hraw:∀ x,TRel E (raw x) (g x)) (args:List Opd):LRel E (args.map fun x => unoptA (raw x)) (args.map g) := LRel.map fun x _ => unoptA_rel (hraw x)

theorem argsT_rel {raw:Opd→TV} (hraw:∀ x,TRel E (raw x) (st.get x)) {op:AI} {f:FuncId} {args:List TV} (h:argsT raw op = some (f,args)) :
  ∃ vs,LRel E args vs∧(∀ m v hp',callable P f = true→CallR P m (siteI op) st.hp f vs v hp'→DoRes P m st op v hp')∧evTouch st op = (vs.flatMap slots ++ [siteI op],wrC st.hp vs (siteI op)) := by
 cases op with
 | op o => cases h
 | call s f' as =>
  simp only [argsT,sJ,pJ] at h; obtain ⟨rfl,rfl⟩ := h
  exact ⟨_,args_lrel hraw as,fun m v hp' _ hc => hc,rfl⟩
 | callv s x as =>
  have hx := unopt_rel (hraw x)
  simp only [argsT] at h
  split at h
  ·rename_i f' caps hxa
   rw [hxa] at hx
   obtain ⟨vs,he,hn,hr⟩ := hx.inv_clo
   simp only [sJ,pJ] at h; obtain ⟨rfl,rfl⟩ := h
   refine ⟨as.map st.get ++ vs,(args_lrel hraw as).append ⟨hn,hr⟩,fun m v hp' h1 hc => ?_,?_⟩
   ·simp only [DoRes,he]; exact ⟨h1,hc⟩
   ·simp only [evTouch,he]; rfl
  ·rename_i f' caps hxa
   rw [hxa] at hx
   obtain ⟨p,he,hle⟩ := hx.inv_fn
   simp only [sJ,pJ] at h; obtain ⟨rfl,rfl⟩ := h
   cases hle with
   | fn _ cap _ _ hn hl hh =>
    refine ⟨as.map st.get ++ cap.map .ipt,(args_lrel hraw as).append ⟨by simpa using hn.symm,fun i c v h1 h2 => ?_⟩,fun m v hp' h1 hc => ?_,?_⟩
    ·rw [List.getElem?_map] at h1 h2
     cases hc:caps[i]? with
     | none => simp [hc] at h1
     | some c' =>
      cases he' : cap[i]? with
      | none => simp [he'] at h2
      | some e =>
       simp only [hc,he',Option.map_some,sJ] at h1 h2; subst h1 h2
       have hc2:(caps.map fun c => c.1.enc c.2)[i]? = some (c'.1.enc c'.2) := by rw [List.getElem?_map,hc]; rfl
       have hlen := hl i e _ he' hc2
       refine .ipt _ _ (by rw [explode_len,← Ty.enc_len c'.1 c'.2]; exact hlen) fun j d p hd hp => ?_
       have hj:j < (c'.1.enc c'.2).length := by
        rw [Ty.enc_len,← explode_len c'.1 c'.2]; exact (List.getElem?_eq_some_iff.1 hd).1
       obtain ⟨q,hq⟩ : ∃ q,(c'.1.enc c'.2)[j]? = some q := ⟨_,List.getElem?_eq_getElem hj⟩
       have := congrArg (·[j]?) (explode_can c'.1 c'.2)
       simp only [List.getElem?_map,hd,hq,Option.map_some,sJ] at this
       exact ⟨q,this,hh i e _ j p q he' hc2 hp hq⟩
    ·simp only [DoRes,he]; exact ⟨h1,hc⟩
    ·simp only [evTouch,he]; rfl
  ·cases h

theorem callT_rel (hC:ConsOk P X.C) (h:Conc X.nt X.ns E T st) {f:FuncId} {args:List TV} {vs:List V} (hr:LRel E args vs) {ps:List Prop} {tv:TV} {ss:List Nat} (hc:callT X T f args = some (ps,tv,ss)) (hps:∀ p∈ps,p) (s:Nat) :
  callable P f = true∧vs.flatMap slots = ss∧wrC st.hp vs s = ss.filter (liveT T) ++ [s]∧ss = args.flatMap slotsT∧∃ v,CallR P X.m s st.hp f vs v (frzAll st.hp ss)∧TRel E tv v := by
 unfold callT at hc
 split at hc
 ·cases hc
 rename_i hid
 split at hc
 ·rename_i c hfc
  split at hc
  ·rename_i x hx
   split at hc
   ·rename_i hall
    simp only [sJ,pJ] at hc; obtain ⟨rfl,rfl,rfl⟩ := hc
    obtain ⟨h1,h2⟩ := (findC_any hC hfc).1 hid
    obtain ⟨as,g1,g2,g3⟩ := packPs_rel h hx hr
    rw [List.all_eq_true] at hall
    have hm:∀ t∈args.flatMap slotsT,X.m≤t∧T.c t ≠ .dead := fun t ht => by
     have := hall t ht
     simp only [Bool.and_eq_true] at this
     exact ⟨Nat.le_of_ble_eq_true this.1,fun e => by rw [e] at this; exact absurd this.2 (by simp [notDead])⟩
    refine ⟨h1,g3,?_,rfl,valR c.rs (c.fn x),?_,tvR_rel _ _⟩
    ·simp only [wrC,g3]
     congr 1
     apply List.filter_congr
     intro t ht
     exact live_rel h (hm t ht).2
    ·have := CallR.pure (P := P) (m := X.m) (s := s) (hp := st.hp) (f := f) (args := vs) as (valR c.rs (c.fn x)) g1 (by
      rw [g3,List.all_eq_true]; intro t ht; simpa using (hm t ht).1) (ret_le g2 (h2 x hps))
     rw [g3] at this; exact this
   ·cases hc
  ·cases hc
 ·cases hc

theorem retM_le {f:FuncId} {as:List V} {ps qs ps' : List Pv} {r:V} (h:LeL ps qs) (hr:RetM P f as qs r ps'):RetM P f as ps r ps' := fun w S vals c sz arr ty h1 h2 h3 h4 => by
 refine hr w S vals c sz arr ty h1 h2 (by rw [h.1]; exact h3) (fun i x' hi => ?_)
 obtain ⟨a,ha⟩ := get_of_len h.1 hi
 exact (h.2 i a x' ha hi).rel (h4 i a ha)
theorem retM_le2 {f:FuncId} {p:Pv} {v' : V} {as:List V} {ps ps' : List Pv} {r:V} (h:VLe (.p p) v') (hr:RetM P f (v' :: as) ps r ps'):RetM P f (.p p :: as) ps r ps' := fun w S vals c sz arr ty h1 h2 h3 h4 h5 h6 h7 => by
 refine hr w S vals c sz arr ty h1 h2 h3 h4 h5 (by simpa using h6) (fun i v hi => ?_)
 match i with
 | 0 =>
  simp only [List.getElem?_cons_zero,sJ] at hi; subst hi
  have := h7 0 (.p p) rfl
  have:VRel Plc0 S w (.p p) (vals.getD 0 undef) := by cases this with | p _ _ h => exact .p _ _ h
  exact (h _ _ _ this).mono (fun _ _ _ e => by cases e) (fun _ e => e) (fun _ _ => rfl)
 | i + 1 => exact h7 (i + 1) v (by simpa using hi)
theorem callM_rel (hC:ConsOk P X.C) (h:Conc X.nt X.ns E T st) {f:FuncId} {args:List TV} {vs:List V} (hr:LRel E args vs) {ps:List Prop} {tv:TV} {T' : TSt} (hc:callM X T f args = some (ps,tv,T')) (hps:∀ p∈ps,p) (s:Nat) :
  callable P f = true∧vs.flatMap slots = args.flatMap slotsT∧wrC st.hp vs s = (args.flatMap slotsT).filter (liveT T) ++ [s]∧∃ v hp',CallR P X.m s st.hp f vs v hp'∧Conc X.nt X.ns E T' ⟨st.ts,hp'⟩∧Hist E T E T'∧TRel E tv v := by
 unfold callM at hc
 split at hc
 ·rename_i s0
  split at hc
  ·rename_i t r t' pre fn hfc
   split at hc
   ·rename_i cs hl
    split at hc
    ·rename_i x hn hx
     simp only [sJ,pJ] at hc; obtain ⟨rfl,rfl,rfl⟩ := hc
     simp only [Bool.and_eq_true] at hn
     have hn2 := Nat.eq_of_beq_eq_true hn.2
     have hn1:0 < t.n := by
      have:1≤t.n := by simpa [Nat.blt] using hn.1
      exact this
     obtain ⟨h1,rfl,h2⟩ := (findC_any hC hfc).2.1 rfl
     obtain ⟨b,q1,q2,q3,q4,q5⟩ := cells_blk h hl
     obtain ⟨us,g1,g2,g3⟩ := imp1_rel hx q5
     -- the argument
     obtain ⟨v,rfl,hv⟩ : ∃ v,vs = [v]∧TRel E (.ptr s0 0 []) v := by
      match vs,hr.1 with
      | [v],_ => exact ⟨v,rfl,hr.2 0 _ v rfl rfl⟩
     obtain ⟨_,rfl⟩ := hv.inv_ptr
     have hoff:0 + dsOff [] = 0 := rfl
     have hlive:b.st = .live := by rw [q4]; rfl
     refine ⟨h1,rfl,?_,valR [.one r] (fn x).1,st.hp.set s0 ⟨b.ver,.live,(t'.enc (fn x).2).map .p⟩,?_,?_⟩
     ·simp only [wrC]
      congr 1
      show (List.flatMap slots [V.ptr s0 (E.vr s0) (0 + dsOff [])]).filter _ = _
      apply List.filter_congr
      intro u hu
      have:u = s0 := by simpa [slots,slotC] using hu
      subst this
      exact live_rel h (by rw [hl]; exact fun e => by cases e)
     ·have := CallR.io (P := P) (m := X.m) (s := s) (hp := st.hp) (f := f) (args := [V.ptr s0 (E.vr s0) (0 + dsOff [])]) [.ptr 0 0 0] (valR [.one r] (fn x).1) s0 b us (t'.enc (fn x).2)
       (by simp [slots,slotC]) q1 hlive (by rw [q5.1,hn2]; exact hn1) (by rw [g1]; exact allP_mapP us) (by simp [optAll,ioV,q2,hoff]) (by simp [ioS,q2]) (retM_le g2 (h2 x hps))
      simpa [ioS,q2,frzAll] using this
     ·obtain ⟨c1,c2⟩ := write_conc (c := .cells true (explode t' (fn x).2)) (b' := ⟨b.ver,.live,(t'.enc (fn x).2).map .p⟩) h q1 ⟨q2,rfl,rfl,explode_lrel⟩
      exact ⟨c1,c2,tvR_rel _ _⟩
    ·cases hc
   ·cases hc
  ·cases hc
 ·rename_i a s0
  split at hc
  ·rename_i u t r t' pre fn hda hfc
   split at hc
   ·rename_i z cs hz hl
    split at hc
    ·rename_i x hn hx
     simp only [sJ,pJ] at hc; obtain ⟨rfl,rfl,rfl⟩ := hc
     simp only [Bool.and_eq_true] at hn
     have hn2 := Nat.eq_of_beq_eq_true hn.2
     have hn1:0 < t.n := by
      have:1≤t.n := by simpa [Nat.blt] using hn.1
      exact this
     obtain ⟨h1,rfl,h2⟩ := (findC_any hC hfc).2.1 rfl
     obtain ⟨b,q1,q2,q3,q4,q5⟩ := cells_blk h hl
     obtain ⟨us,g1,g2,g3⟩ := imp1_rel hx q5
     -- the arguments
     obtain ⟨va,v,rfl,hva,hv⟩ : ∃ va v,vs = [va,v]∧TRel E a va∧TRel E (.ptr s0 0 []) v := by
      match vs,hr.1 with
      | [va,v],_ => exact ⟨va,v,rfl,hr.2 0 _ va rfl rfl,hr.2 1 _ v rfl rfl⟩
     obtain ⟨_,rfl⟩ := hv.inv_ptr
     obtain ⟨p,rfl⟩ : ∃ p,va = .p p := by
      cases a <;> simp only [isData,Bool.false_eq_true] at hda
      all_goals cases hva with | pure _ p _ => exact ⟨p,rfl⟩
     have hsa:slotsT a = [] := by
      cases a <;> simp only [isData,Bool.false_eq_true] at hda
      all_goals rfl
     have hp1 := packP_rel h hz hva
     obtain ⟨vp,k1,k2,_⟩ := hp1
     have k1:V.p p = vp := by simpa [pur] using k1
     subst k1
     have hoff:0 + dsOff [] = 0 := rfl
     have hlive:b.st = .live := by rw [q4]; rfl
     refine ⟨h1,by rw [List.flatMap_cons,List.flatMap_cons (f := slotsT),hsa]; rfl,?_,valR [.one r] (fn (z,x)).1,st.hp.set s0 ⟨b.ver,.live,(t'.enc (fn (z,x)).2).map .p⟩,?_,?_⟩
     ·simp only [wrC]
      congr 1
      show (List.flatMap slots [V.p p,V.ptr s0 (E.vr s0) (0 + dsOff [])]).filter _ = _
      have e1:List.flatMap slots [V.p p,V.ptr s0 (E.vr s0) (0 + dsOff [])] = [s0] := rfl
      have e2:List.flatMap slotsT [a,.ptr s0 0 []] = [s0] := by rw [List.flatMap_cons,hsa]; rfl
      rw [e1,e2]
      apply List.filter_congr
      intro u hu
      have:u = s0 := by simpa using hu
      subst this
      exact live_rel h (by rw [hl]; exact fun e => by cases e)
     ·have := CallR.io (P := P) (m := X.m) (s := s) (hp := st.hp) (f := f) (args := [V.p p,V.ptr s0 (E.vr s0) (0 + dsOff [])]) [.p p,.ptr 0 0 0] (valR [.one r] (fn (z,x)).1) s0 b us (t'.enc (fn (z,x)).2)
       (by simp [slots,slotC]) q1 hlive (by rw [q5.1,hn2]; exact hn1) (by rw [g1]; exact allP_mapP us) (by simp [optAll,ioV,q2,hoff,pur]) (by simp [ioS,q2,slots,slotC]) (retM_le2 k2 (retM_le g2 (h2 z x hps)))
      simpa [ioS,q2,frzAll,slots,slotC] using this
     ·obtain ⟨c1,c2⟩ := write_conc (c := .cells true (explode t' (fn (z,x)).2)) (b' := ⟨b.ver,.live,(t'.enc (fn (z,x)).2).map .p⟩) h q1 ⟨q2,rfl,rfl,explode_lrel⟩
      exact ⟨c1,c2,tvR_rel _ _⟩
    ·cases hc
   ·cases hc
  ·cases hc
 ·cases hc

theorem callO_rel (hC:ConsOk P X.C) (h:Conc X.nt X.ns E T st) {f:FuncId} {args:List TV} {vs:List V} (hr:LRel E args vs) {s:Nat} {ps:List Prop} {tv:TV} {T' : TSt} (hc:callO X T f args s = some (ps,tv,T')) (hps:∀ p∈ps,p) :
  callable P f = true∧vs.flatMap slots = args.flatMap slotsT∧wrC st.hp vs s = (args.flatMap slotsT).filter (liveT T) ++ [s]∧∃ v hp' E',CallR P X.m s st.hp f vs v hp'∧Conc X.nt X.ns E' T' ⟨st.ts,hp'⟩∧Hist E T E' T'∧TRel E' tv v := by
 unfold callO at hc
 split at hc
 ·rename_i pss e pre fn hfc
  split at hc
  ·rename_i x hx hall
   simp only [sJ,pJ] at hc; obtain ⟨rfl,rfl,rfl⟩ := hc
   simp only [Bool.and_eq_true] at hall
   obtain ⟨hall,hs⟩ := hall
   have hs:s < X.ns := by
    have:s + 1≤X.ns := by simpa [Nat.blt] using hs
    exact this
   obtain ⟨h1,h2⟩ := (findC_any hC hfc).2.2.2.1 rfl
   obtain ⟨as,g1,g2,g3⟩ := packPs_rel h hx hr
   rw [List.all_eq_true] at hall
   have hm:∀ t∈args.flatMap slotsT,X.m≤t∧T.c t ≠ .dead := fun t ht => by
    have := hall t ht
    simp only [Bool.and_eq_true] at this
    exact ⟨Nat.le_of_ble_eq_true this.1,fun e => by rw [e] at this; exact absurd this.2 (by simp [notDead])⟩
   obtain ⟨c1,c2⟩ := frz_conc (ss := args.flatMap slotsT) h
   obtain ⟨b,hb⟩ : ∃ b,(frzAll st.hp (args.flatMap slotsT))[s]? = some b := ⟨_,List.getElem?_eq_getElem (by rw [frzAll_len,h.lh]; exact hs)⟩
   obtain ⟨d1,d2⟩ := alloc_conc (ver := b.ver + 1) (len := (fn x).length) (cs := ((List.map e.enc (fn x)).flatten).map .p) c1 hb (c := .dyn true e (fn x)) ⟨Env.at_vr.symm,rfl,rfl,by rw [Env.at_ln],_,rfl,⟨rfl,fun i a b h1 h2 => by rw [h1] at h2; injection h2 with h2; subst h2; exact .refl _⟩⟩
   refine ⟨h1,g3,?_,.ref s (b.ver + 1) 0 (fn x).length e.n,_,_,?_,d1,c2.trans d2,?_⟩
   ·simp only [wrC,g3]
    congr 1
    apply List.filter_congr
    intro t ht
    exact live_rel h (hm t ht).2
   ·have := CallR.own (P := P) (m := X.m) (s := s) (hp := st.hp) (f := f) (args := vs) as (fun t ver => .ref t ver 0 (fn x).length e.n) (((List.map e.enc (fn x)).flatten).map .p) b g1 (by
     rw [g3,List.all_eq_true]; intro t ht; simpa using (hm t ht).1) (reto_le g2 (h2 x hps)) (by rw [g3]; exact hb)
    rw [g3] at this; exact this
   ·have := TRel.own (E := E.at s (b.ver + 1) (fn x).length) s e
    rw [Env.at_vr,Env.at_ln] at this; exact this
  ·cases hc
 ·rename_i pss e pre fn hfc
  split at hc
  ·rename_i x hx hall
   simp only [sJ,pJ] at hc; obtain ⟨rfl,rfl,rfl⟩ := hc
   simp only [Bool.and_eq_true] at hall
   obtain ⟨hall,hs⟩ := hall
   have hs:s < X.ns := by
    have:s + 1≤X.ns := by simpa [Nat.blt] using hs
    exact this
   obtain ⟨h1,h2⟩ := (findC_any hC hfc).2.2.2.1 rfl
   obtain ⟨as,g1,g2,g3⟩ := packPs_rel h hx hr
   rw [List.all_eq_true] at hall
   have hm:∀ t∈args.flatMap slotsT,X.m≤t∧T.c t ≠ .dead := fun t ht => by
    have := hall t ht
    simp only [Bool.and_eq_true] at this
    exact ⟨Nat.le_of_ble_eq_true this.1,fun e => by rw [e] at this; exact absurd this.2 (by simp [notDead])⟩
   obtain ⟨c1,c2⟩ := frz_conc (ss := args.flatMap slotsT) h
   obtain ⟨b,hb⟩ : ∃ b,(frzAll st.hp (args.flatMap slotsT))[s]? = some b := ⟨_,List.getElem?_eq_getElem (by rw [frzAll_len,h.lh]; exact hs)⟩
   obtain ⟨d1,d2⟩ := alloc_conc (ver := b.ver + 1) (len := List.length (α := e.den) (fn x)) (cs := ((List.map e.enc (fn x)).flatten).map .p) c1 hb (c := .dyn true e (fn x)) ⟨Env.at_vr.symm,rfl,rfl,by rw [Env.at_ln],_,rfl,⟨rfl,fun i a b h1 h2 => by rw [h1] at h2; injection h2 with h2; subst h2; exact .refl _⟩⟩
   refine ⟨h1,g3,?_,.agg [.ref s (b.ver + 1) 0 (List.length (α := e.den) (fn x)) e.n],_,_,?_,d1,c2.trans d2,?_⟩
   ·simp only [wrC,g3]
    congr 1
    apply List.filter_congr
    intro t ht
    exact live_rel h (hm t ht).2
   ·have := CallR.own (P := P) (m := X.m) (s := s) (hp := st.hp) (f := f) (args := vs) as (fun t ver => .agg [.ref t ver 0 (List.length (α := e.den) (fn x)) e.n]) (((List.map e.enc (fn x)).flatten).map .p) b g1 (by
     rw [g3,List.all_eq_true]; intro t ht; simpa using (hm t ht).1) (reto_le g2 (h2 x hps)) (by rw [g3]; exact hb)
    rw [g3] at this; exact this
   ·have := TRel.own (E := E.at s (b.ver + 1) (List.length (α := e.den) (fn x))) s e
    rw [Env.at_vr,Env.at_ln] at this
    refine .agg _ _ rfl fun i c v h1 h2 => ?_
    match i,h1,h2 with
    | 0,h1,h2 =>
     simp only [List.getElem?_cons_zero,sJ] at h1 h2
     subst h1 h2; exact this
  ·cases hc
 ·rename_i pss kk e pre fn hfc
  split at hc
  ·rename_i x hx hall
   simp only [sJ,pJ] at hc; obtain ⟨rfl,rfl,rfl⟩ := hc
   simp only [Bool.and_eq_true] at hall
   obtain ⟨hall,hs⟩ := hall
   have hs:s < X.ns := by
    have:s + 1≤X.ns := by simpa [Nat.blt] using hs
    exact this
   obtain ⟨h1,h2⟩ := (findC_any hC hfc).2.2.2.1 rfl
   obtain ⟨as,g1,g2,g3⟩ := packPs_rel h hx hr
   rw [List.all_eq_true] at hall
   have hm:∀ t∈args.flatMap slotsT,X.m≤t∧T.c t ≠ .dead := fun t ht => by
    have := hall t ht
    simp only [Bool.and_eq_true] at this
    exact ⟨Nat.le_of_ble_eq_true this.1,fun e => by rw [e] at this; exact absurd this.2 (by simp [notDead])⟩
   obtain ⟨c1,c2⟩ := frz_conc (ss := args.flatMap slotsT) h
   obtain ⟨b,hb⟩ : ∃ b,(frzAll st.hp (args.flatMap slotsT))[s]? = some b := ⟨_,List.getElem?_eq_getElem (by rw [frzAll_len,h.lh]; exact hs)⟩
   obtain ⟨d1,d2⟩ := alloc_conc (ver := b.ver + 1) (len := List.length (α := e.den) (sndL (fn x))) (cs := ((List.map e.enc (sndL (fn x))).flatten).map .p) c1 hb (c := .dyn true e (sndL (fn x))) ⟨Env.at_vr.symm,rfl,rfl,by rw [Env.at_ln],_,rfl,⟨rfl,fun i a b h1 h2 => by rw [h1] at h2; injection h2 with h2; subst h2; exact .refl _⟩⟩
   refine ⟨h1,g3,?_,.agg [.p (.int kk (fstI (fn x))),.ref s (b.ver + 1) 0 (List.length (α := e.den) (sndL (fn x))) e.n],_,_,?_,d1,c2.trans d2,?_⟩
   ·simp only [wrC,g3]
    congr 1
    apply List.filter_congr
    intro t ht
    exact live_rel h (hm t ht).2
   ·have := CallR.own (P := P) (m := X.m) (s := s) (hp := st.hp) (f := f) (args := vs) as (fun t ver => .agg [.p (.int kk (fstI (fn x))),.ref t ver 0 (List.length (α := e.den) (sndL (fn x))) e.n]) (((List.map e.enc (sndL (fn x))).flatten).map .p) b g1 (by
     rw [g3,List.all_eq_true]; intro t ht; simpa using (hm t ht).1) (reto_le g2 (h2 x hps)) (by rw [g3]; exact hb)
    rw [g3] at this; exact this
   ·have := TRel.own (E := E.at s (b.ver + 1) (List.length (α := e.den) (sndL (fn x)))) s e
    rw [Env.at_vr,Env.at_ln] at this
    refine .agg _ _ rfl fun i c v h1 h2 => ?_
    match i,h1,h2 with
    | 0,h1,h2 =>
     simp only [List.getElem?_cons_zero,sJ] at h1 h2
     subst h1 h2; exact .int
    | 1,h1,h2 =>
     simp only [List.getElem?_cons_succ,List.getElem?_cons_zero,sJ] at h1 h2
     subst h1 h2; exact this
  ·cases hc
 ·cases hc

omit [Laid] in
theorem packPs_get {look:Nat→TC}:∀ {ps:List PSh} {cs:List TV} {x:(tyPs ps).den},packPs look ps cs = some x→cs.length = ps.length∧∀ (i:Nat) (p:PSh) (c:TV),ps[i]? = some p→cs[i]? = some c→∃ y,packP look p c = some y∧(valPs ps x)[i]? = some (valP p y)∧(tvPs ps x)[i]? = some (tvP p y)
 | [],[],x,_ => ⟨rfl,by simp⟩
 | [p],[c],x,h => ⟨rfl,fun i p' c' h1 h2 => by
   match i with
   | 0 =>
    simp only [List.getElem?_cons_zero,sJ] at h1 h2; subst h1 h2
    exact ⟨x,h,rfl,rfl⟩
   | i + 1 => simp at h1⟩
 | p :: q :: r,c :: cs,x,h => by
  simp only [packPs] at h
  split at h
  ·rename_i y z hy hz
   simp only [sJ] at h; subst h
   obtain ⟨h1,h2⟩ := packPs_get hz
   refine ⟨by simp [h1],fun i p' c' k1 k2 => ?_⟩
   match i with
   | 0 =>
    simp only [List.getElem?_cons_zero,sJ] at k1 k2; subst k1 k2
    exact ⟨y,hy,rfl,rfl⟩
   | i + 1 =>
    obtain ⟨y',g1,g2,g3⟩ := h2 i p' c' (by simpa using k1) (by simpa using k2)
    exact ⟨y',g1,by simpa [valPs] using g2,by simpa [tvPs] using g3⟩
  ·cases h
 | [],_ :: _,_,h => by simp [packPs] at h
 | [_],[],_,h => by simp [packPs] at h
 | [_],_ :: _ :: _,_,h => by simp [packPs] at h
 | _ :: _ :: _,[],_,h => by simp [packPs] at h
omit [Laid] in
theorem valPs_get:∀ (ps:List PSh) (x:(tyPs ps).den),(valPs ps x).length = ps.length∧(tvPs ps x).length = ps.length∧∀ (i:Nat) (p:PSh),ps[i]? = some p→∃ y,(valPs ps x)[i]? = some (valP p y)∧(tvPs ps x)[i]? = some (tvP p y)
 | [],x => ⟨rfl,rfl,by simp⟩
 | [p],x => ⟨rfl,rfl,fun i p' h1 => by
   match i with
   | 0 => simp only [List.getElem?_cons_zero,sJ] at h1; subst h1; exact ⟨x,rfl,rfl⟩
   | i + 1 => simp at h1⟩
 | p :: q :: r,x => by
  obtain ⟨h1,h2,h3⟩ := valPs_get (q :: r) x.2
  refine ⟨by simp [valPs,h1],by simp [tvPs,h2],fun i p' k1 => ?_⟩
  match i with
  | 0 => simp only [List.getElem?_cons_zero,sJ] at k1; subst k1; exact ⟨x.1,rfl,rfl⟩
  | i + 1 =>
   obtain ⟨y,g1,g2⟩ := h3 i p' (by simpa using k1)
   exact ⟨y,by simpa [valPs] using g1,by simpa [tvPs] using g2⟩

omit [Laid] in
theorem ownsT_get {look:Nat→TC}:∀ {cs:List TV} {ss:List Nat} {ps:List Prop},ownsT look cs = some (ss,ps)→ss.length = cs.length∧∀ (j:Nat) (c:TV),cs[j]? = some c→∃ s t t' l,c = .own s t∧ss[j]? = some s∧look s = .dyn true t' l∧t'.n = t.n∧(0 < l.length)∈ps
 | [],ss,ps,h => by simp only [ownsT,sJ,pJ] at h; obtain ⟨rfl,rfl⟩ := h; exact ⟨rfl,by simp⟩
 | c :: cs,ss,ps,h => by
  cases c with
  | own s t =>
   simp only [ownsT] at h
   split at h
   ·rename_i t' l ss' ps' hl ho
    split at h
    ·rename_i hn
     simp only [sJ,pJ] at h; obtain ⟨rfl,rfl⟩ := h
     obtain ⟨h1,h2⟩ := ownsT_get ho
     refine ⟨by simp [h1],fun j c hc => ?_⟩
     match j with
     | 0 =>
      simp only [List.getElem?_cons_zero,sJ] at hc; subst hc
      exact ⟨s,t,t',l,rfl,rfl,hl,Nat.eq_of_beq_eq_true hn,by simp⟩
     | j + 1 =>
      obtain ⟨s',t1,t2,l',g1,g2,g3,g4,g5⟩ := h2 j c (by simpa using hc)
      exact ⟨s',t1,t2,l',g1,by simpa using g2,g3,g4,by simp [g5]⟩
    ·cases h
   ·cases h
  | _ => simp [ownsT] at h

omit [Laid] in
theorem noDup_ok:∀ {l:List Nat},noDup l = true→l.Nodup
 | [],_ => List.nodup_nil
 | s :: r,h => by
  simp only [noDup,Bool.and_eq_true,Bool.not_eq_true',List.any_eq_false] at h
  refine List.nodup_cons.2 ⟨fun hm => ?_,noDup_ok h.2⟩
  exact h.1 s hm (by simp)

omit [Laid] in
theorem pur_plc {hp:List Blk} {v a:V} (hp' : pur hp v = some a) {Φ:Plc} {S:Nat→Prop} {w:World} {x:Value} (h:VRel Φ S w a x):VRel Plc0 S w a x := by
 have cell:∀ (y:Pv) (x:Value),VRel Φ S w (.p y) x→VRel Plc0 S w (.p y) x := fun y x h => by cases h with | p _ _ h => exact .p _ _ h
 cases v with
 | p y => simp only [pur,sJ] at hp'; subst hp'; exact cell _ _ h
 | agg cs =>
  simp only [pur,Option.map_eq_some_iff] at hp'
  obtain ⟨l,_,rfl⟩ := hp'
  obtain ⟨arr,rfl,hn,hc⟩ := inv_agg h
  refine .agg _ _ hn fun i c hi => ?_
  have hh := hc i c hi
  rw [List.getElem?_map] at hi
  cases hq:l[i]? with
  | none => simp [hq] at hi
  | some q => simp only [hq,Option.map_some,sJ] at hi; subst hi; exact cell _ _ hh
 | ref t ver o n k =>
  simp only [pur,Option.map_eq_some_iff] at hp'
  obtain ⟨l,_,rfl⟩ := hp'
  exact cell _ _ h
 | ptr t ver o =>
  simp only [pur,Option.map_eq_some_iff] at hp'
  obtain ⟨l,_,rfl⟩ := hp'
  obtain ⟨b,o',cell,rfl,h1,h2,h3⟩ := inv_ipt h
  exact .ipt _ b o' cell h1 h2 h3
 | ipt cs =>
  simp only [pur,sJ] at hp'; subst hp'
  obtain ⟨b,o',cell,rfl,h1,h2,h3⟩ := inv_ipt h
  exact .ipt _ b o' cell h1 h2 h3
 | clo f caps =>
  simp only [pur,Option.map_eq_some_iff] at hp'
  obtain ⟨l,_,rfl⟩ := hp'
  exact cell _ _ h
 | und => simp only [pur,sJ] at hp'; subst hp'; exact .und _
 | tup | opt | no | yld | ub => simp [pur] at hp'

omit [Laid] in
theorem LeLL.flat:∀ {es es' : List (List Pv)},LeLL es es'→LeL es.flatten es'.flatten
 | [],es',h => by
  have:es' = [] := List.length_eq_zero_iff.1 (by simpa using h.1)
  subst this; exact .nil
 | e :: es,[],h => by have := h.1; simp at this
 | e :: es,e' :: es',h => by
  have h1 := h.2 0 e e' rfl rfl
  have h2:LeLL es es' := ⟨by simpa using h.1,fun i a b ha hb => h.2 (i + 1) a b (by simpa using ha) (by simpa using hb)⟩
  simpa using h1.append h2.flat

theorem retN_le {f:FuncId} {as bs:List V} {pss qss pss' : List (List Pv)} {r:V} (hn:bs.length = as.length) (hle:∀ (i:Nat) (a b:V),as[i]? = some a→bs[i]? = some b→a = b ∨ ((∃ hp v,pur hp v = some a)∧VLe a b)) (hq:qss.length = pss.length) (hql:∀ (i:Nat) (p q:List Pv),pss[i]? = some p→qss[i]? = some q→LeL p q)
  (hr:RetN P f bs qss r pss'):RetN P f as pss r pss' := fun w S vals bl hd hB hv1 hv2 hS hG => by
 refine hr w S vals bl hd ⟨by rw [hq]; exact hB.1,fun i c sz ps e1 e2 => ?_⟩ (by rw [hn]; exact hv1) (fun i b hb => ?_) hS hG
 ·obtain ⟨p,hp⟩ := get_of_len hq e2
  obtain ⟨k1,arr,ty,k2,k3,k4,k5⟩ := hB.2 i c sz p e1 hp
  have hl := hql i p ps hp e2
  refine ⟨k1,arr,ty,k2,k3,by rw [hl.1]; exact k4,fun j y hy => ?_⟩
  obtain ⟨z,hz⟩ := get_of_len hl.1 hy
  exact (hl.2 j z y hz hy).rel (k5 j z hz)
 ·obtain ⟨a,ha⟩ := get_of_len hn hb
  rcases hle i a b ha hb with rfl | ⟨⟨hp,v,hpv⟩,hl⟩
  ·exact hv2 i a ha
  ·exact (hl _ _ _ (pur_plc hpv (hv2 i a ha))).mono (fun _ _ _ e => by cases e) (fun _ e => e) (fun _ _ => rfl)

omit [Laid] in
theorem putsC_conc:∀ {ss:List Nat} {ts:List TV} {us:List (Nat×Blk)} {pss:List (List Pv)} {T:TSt} {st:St},Conc X.nt X.ns E T st→us.length = ss.length→ts.length = ss.length→pss.length = ss.length →
  (∀ (j:Nat) (s:Nat),ss[j]? = some s→∃ b e l,us[j]? = some (s,b)∧st.hp[s]? ≠ none∧b.ver = E.vr s∧ts[j]? = some (.sl e l)∧pss[j]? = some ((List.map e.enc l).flatten)∧E.ln s = l.length)→Conc X.nt X.ns E (putsC T ss ts) ⟨st.ts,setAll st.hp us pss⟩∧Hist E T E (putsC T ss ts)
 | [],ts,us,pss,T,st,h,h1,h2,h3,_ => by
  have:us = [] := List.length_eq_zero_iff.1 h1
  subst this
  cases ts <;> exact ⟨h,.refl _ _⟩
 | s :: ss,ts,us,pss,T,st,h,h1,h2,h3,hj => by
  obtain ⟨b,e,l,k1,k2,k3,k4,k5,k6⟩ := hj 0 s rfl
  match us,ts,pss,k1,k4,k5 with
  | u :: us,t :: ts,p :: pss,k1,k4,k5 =>
   simp only [List.getElem?_cons_zero,sJ] at k1 k4 k5
   subst k1 k4 k5
   cases hb0:st.hp[s]? with
   | none => exact absurd hb0 k2
   | some b0 =>
    obtain ⟨c1,c2⟩ := write_conc (c := .dyn true e l) (b' := ⟨b.ver,.live,((List.map e.enc l).flatten).map .p⟩) h hb0 ⟨k3,rfl,rfl,k6,_,rfl,⟨rfl,fun i a b h1 h2 => by rw [h1] at h2; injection h2 with h2; subst h2; exact .refl _⟩⟩
    obtain ⟨d1,d2⟩ := putsC_conc (ss := ss) (ts := ts) (us := us) (pss := pss) c1 (by simpa using h1) (by simpa using h2) (by simpa using h3) (fun j s' hs' => by
     obtain ⟨b',e',l',g1,g2,g3,g4,g5,g6⟩ := hj (j + 1) s' (by simpa using hs')
     refine ⟨b',e',l',by simpa using g1,?_,g3,by simpa using g4,by simpa using g5,g6⟩
     dsimp only
     rw [List.getElem?_set]
     split
     ·split
      ·simp
      ·rename_i hlt; exact absurd (List.getElem?_eq_some_iff.1 hb0).1 hlt
     ·exact g2)
    exact ⟨d1,c2.trans d2⟩

theorem callN_rel (hC:ConsOk P X.C) (h:Conc X.nt X.ns E T st) {f:FuncId} {args:List TV} {vs:List V} (hr:LRel E args vs) {m:Nat} {ps:List Prop} {tv:TV} {T' : TSt} (hc:callN X T f args m = some (ps,tv,T')) (hps:∀ p∈ps,p) (s:Nat) :
  callable P f = true∧vs.flatMap slots = args.flatMap slotsT∧wrC st.hp vs s = (args.flatMap slotsT).filter (liveT T) ++ [s]∧∃ v hp',CallR P X.m s st.hp f vs v hp'∧Conc X.nt X.ns E T' ⟨st.ts,hp'⟩∧Hist E T E T'∧TRel E tv v := by
 unfold callN at hc
 split at hc
 rotate_left
 ·cases hc
 rename_i c hfc
 split at hc
 rotate_left
 ·cases hc
 rename_i x ss ps0 hx hown
 split at hc
 rotate_left
 ·cases hc
 rename_i hall
 simp only [sJ,pJ] at hc; obtain ⟨rfl,rfl,rfl⟩ := hc
 simp only [Bool.and_eq_true] at hall
 obtain ⟨⟨⟨hnd,hall⟩,hlen⟩,hm0⟩ := hall
 have hnd := noDup_ok hnd
 have hlen := Nat.eq_of_beq_eq_true hlen
 obtain ⟨h1,hm1,hm2,hshape,hpsEq,hcon⟩ := (findC_any hC hfc).2.2.2.2 m rfl
 obtain ⟨hret,hlens⟩ := hcon x (fun p hp => hps p (by simp [hp]))
 rw [List.all_eq_true] at hall hshape
 obtain ⟨as,g1,g2,g3⟩ := packPs_rel h hx hr
 obtain ⟨ag1,ag2⟩ := optAll_get vs as g1
 obtain ⟨hx1,hx2⟩ := packPs_get hx
 obtain ⟨o1,o2⟩ := ownsT_get hown
 have hvl:vs.length = args.length := hr.1
 let n := c.ps.length - m
 have hn:args.length - m = n := by rw [hlen]
 have hnm:n + m = args.length := by omega
 have hssl:ss.length = m := by rw [o1,List.length_drop]; omega
 obtain ⟨vl1,vl2,vl3⟩ := valPs_get c.ps x
 obtain ⟨rl1,rl2,rl3⟩ := valPs_get c.rs (c.fn x)
 -- the arguments that are handed in
 have hio:∀ j,j < m→∃ s t t' l e b es,args[n + j]? = some (.own s t)∧ss[j]? = some s∧T.c s = .dyn true t' l∧vs[n + j]? = some (.ref s (E.vr s) 0 (E.ln s) t.n)∧st.hp[s]? = some b∧b.ver = E.vr s∧b.st = .live∧E.ln s = l.length∧b.cs = es.flatten.map .p ∧
   c.ps[n + j]? = some (.one (.sl e))∧(∃ l2:List e.den,(valPs c.ps x)[n + j]? = some (.p (.sl e.n (List.map e.enc l2) false))∧l2.length = l.length∧LeLL es (List.map e.enc l2))∧t.n = e.n∧0 < e.n∧0 < l.length := by
  intro j hj
  have hlt:n + j < args.length := by omega
  obtain ⟨s,t,t',l,k1,k2,k3,k4,k5⟩ := o2 j args[n + j] (by rw [List.getElem?_drop,hn]; exact List.getElem?_eq_getElem hlt)
  have ha:args[n + j]? = some (.own s t) := by rw [List.getElem?_eq_getElem hlt,k1]
  obtain ⟨v,hv⟩ := get_of_len hvl.symm ha
  have hvr := hr.2 _ _ _ ha hv
  obtain ⟨b,q1,q2,q3,q4,q5,es,q6,q7⟩ := dyn_blk h k3
  have hp:n + j < c.ps.length := by omega
  have hsh := hshape (c.ps[n + j]) (by
   rw [List.mem_iff_getElem?]
   exact ⟨j,by rw [List.getElem?_drop]; exact List.getElem?_eq_getElem hp⟩)
  obtain ⟨e,he,he0⟩ : ∃ e,c.ps[n + j] = .one (.sl e)∧0 < e.n := by
   unfold isSlP at hsh
   split at hsh
   ·rename_i e heq
    exact ⟨e,heq,by
     have:1≤e.n := by simpa [Nat.blt] using hsh
     exact this⟩
   ·cases hsh
  have hpe:c.ps[n + j]? = some (.one (.sl e)) := by rw [List.getElem?_eq_getElem hp,he]
  obtain ⟨y,y1,y2,_⟩ := hx2 _ _ _ hpe ha
  -- the typed list
  have himp:∃ l2:List e.den,y = l2∧implSl T.c e (implode e deadC) (.own s t) = some l2 := by
   simp only [packP,packP0,unfs,implode] at y1
   split at y1
   ·rename_i y' _ hy'
    split at hy'
    ·rename_i l2 hl2
     simp only [sJ,pJ] at hy' y1
     exact ⟨l2,by rw [← y1,← hy'.1],hl2⟩
    ·cases hy'
   ·cases y1
  obtain ⟨l2,rfl,himp⟩ := himp
  simp only [implSl,k3] at himp
  split at himp
  ·rename_i hn'
   have hn' := of_decide_eq_true hn'
   obtain ⟨e1,e2⟩ := castL_le himp
   refine ⟨s,t,t',l,e,b,es,ha,k2,k3,by rw [hv,hvr.inv_own],q1,q2,q4,q5,q6,hpe,⟨y,y2,?_,by rw [← e2]; exact q7⟩,hn'.trans e1,he0,hps _ (by simp [k5])⟩
   have := congrArg List.length e2
   simpa using this.symm
  ·cases himp
 let us:List (Nat×Blk) := ss.map fun s => (s,(st.hp[s]?).getD ⟨0,.dead,[]⟩)
 have husl:us.length = m := by simp [us,hssl]
 have hus1:us.map (·.1) = ss := by simp [us,Function.comp_def]
 have hus:∀ (j s:Nat) (b:Blk),ss[j]? = some s→st.hp[s]? = some b→us[j]? = some (s,b) := by
  intro j s b hj hb
  simp only [us,List.getElem?_map,hj,Option.map_some,hb,Option.getD_some]
 have hjm:∀ {j:Nat} {s:Nat},ss[j]? = some s→j < m := fun hj => by rw [← hssl]; exact (List.getElem?_eq_some_iff.1 hj).1
 -- the slots of the others
 have hA:(args.take n).flatMap slotsT = (vs.take n).flatMap slots := by
  have:∀ (i:Nat) (c0:TV) (v:V),args[i]? = some c0→vs[i]? = some v→slots v = slotsT c0 := by
   intro i c0 v hc0 hv
   have hp:i < c.ps.length := by have := (List.getElem?_eq_some_iff.1 hc0).1; omega
   obtain ⟨y,y1,_,_⟩ := hx2 i _ _ (List.getElem?_eq_getElem hp) hc0
   obtain ⟨a,_,_,k3⟩ := packP_rel h y1 (hr.2 i c0 v hc0 hv)
   exact k3
  have gen:∀ (A:List TV) (B:List V),B.length = A.length→(∀ (i:Nat) (c0:TV) (v:V),A[i]? = some c0→B[i]? = some v→slots v = slotsT c0)→A.flatMap slotsT = B.flatMap slots := by
   intro A
   induction A with
   | nil => intro B hB _; have:B = [] := List.length_eq_zero_iff.1 hB; subst this; rfl
   | cons a A ih =>
    intro B hB hh
    cases B with
    | nil => simp at hB
    | cons b B =>
     rw [List.flatMap_cons,List.flatMap_cons,hh 0 a b rfl rfl,ih B (by simpa using hB) (fun i c0 v h1 h2 => hh (i + 1) c0 v (by simpa using h1) (by simpa using h2))]
  refine gen _ _ (by simp [hvl]) (fun i c0 v hc0 hv => ?_)
  rw [List.getElem?_take] at hc0 hv
  split at hc0
  ·rename_i hi
   rw [if_pos hi] at hv
   exact this i c0 v hc0 hv
  ·cases hc0
 have hAok:∀ t∈(vs.take n).flatMap slots,X.m≤t∧T.c t ≠ .dead∧t ∉ ss := by
  intro t ht
  rw [← hA,← hn] at ht
  have := hall t ht
  simp only [Bool.and_eq_true,Bool.not_eq_true',List.any_eq_false] at this
  exact ⟨Nat.le_of_ble_eq_true this.1.1,fun e => by rw [e] at this; exact absurd this.1.2 (by simp [notDead]),fun hm => this.2 t hm (by simp)⟩
 have hver:∀ t ver,t ∉ ss→verU us t ver = none := by
  intro t ver ht
  cases hv:verU us t ver with
  | none => rfl
  | some i =>
   obtain ⟨q,e1,e2,_⟩ := verU_some hv
   exact absurd (by rw [← hus1]; exact List.mem_map.2 ⟨q,List.mem_of_getElem? e1,e2⟩) ht
 have hver2:∀ (j s:Nat) (b:Blk),ss[j]? = some s→st.hp[s]? = some b→b.ver = E.vr s→verU us s (E.vr s) = some j := by
  intro j s b hj hb hbv
  have hu := hus j s b hj hb
  have hidx:idxU us s = some j := by
   unfold idxU
   rw [List.findIdx?_eq_some_iff_getElem]
   have hjl:j < us.length := (List.getElem?_eq_some_iff.1 hu).1
   refine ⟨hjl,?_,fun i hi => ?_⟩
   ·have := (List.getElem?_eq_some_iff.1 hu).2
    rw [this]; simp
   ·have hil:i < us.length := Nat.lt_trans hi hjl
    simp only [beq_iff_eq,Bool.not_eq_true]
    have h3:ss[i]? = some (us[i]).1 := by
     rw [← hus1,List.getElem?_map,List.getElem?_eq_getElem hil]; rfl
    have hne:(us[i]).1 ≠ s := by
     intro e
     rw [e] at h3
     have hi' := (List.getElem?_eq_some_iff.1 h3).1
     have:i = j := (List.getElem?_inj hi' hnd).1 (h3.trans hj.symm)
     omega
    simpa using hne
  unfold verU
  rw [hidx]
  simp only [hu]
  rw [if_pos hbv]
 -- what the others are
 have hioA:∀ v,(∀ t∈slots v,t ∉ ss)→ioVN us st.hp v = pur st.hp v∧ioSN us v = slots v := by
  intro v hv
  cases v with
  | ptr t ver o =>
   have := hver t ver (hv t (by simp [slots,slotC]))
   simp only [ioVN,ioSN,this,slots,slotC,and_self]
  | ref t ver o n k =>
   have := hver t ver (hv t (by simp [slots,slotC]))
   simp only [ioVN,ioSN,this,slots,slotC,and_self]
  | _ => exact ⟨rfl,rfl⟩
 have hioB:∀ j,j < m→∃ v s t,vs[n + j]? = some v∧ss[j]? = some s∧v = .ref s (E.vr s) 0 (E.ln s) t∧ioVN us st.hp v = some (.ref j 0 0 (E.ln s) t)∧ioSN us v = [] := by
  intro j hj
  obtain ⟨s,t,t',l,e,b,es,k1,k2,k3,k4,k5,k6,k7,k8,k9,k10,k11,k12,k13,k14⟩ := hio j hj
  have := hver2 j s b k2 k5 k6
  exact ⟨_,s,t.n,k4,k2,rfl,by simp only [ioVN,this],by simp only [ioSN,this]⟩
 have hAmem:∀ (i:Nat) (v:V),i < n→vs[i]? = some v→∀ t∈slots v,t∈(vs.take n).flatMap slots := by
  intro i v hi hv t ht
  refine List.mem_flatMap.2 ⟨v,?_,ht⟩
  rw [List.mem_iff_getElem?]
  exact ⟨i,by rw [List.getElem?_take,if_pos hi]; exact hv⟩
 let as' : List V := as.take n ++ (List.range m).map fun j => V.ref j 0 0 (E.ln (ss.getD j 0)) (slK ((valPs c.ps x).getD (n + j) .und))
 have hK:∀ j s t t' l e b es,args[n + j]? = some (.own s t)∧ss[j]? = some s∧T.c s = .dyn true t' l∧vs[n + j]? = some (.ref s (E.vr s) 0 (E.ln s) t.n)∧st.hp[s]? = some b∧b.ver = E.vr s∧b.st = .live∧E.ln s = l.length∧b.cs = es.flatten.map .p ∧
   c.ps[n + j]? = some (.one (.sl e))∧(∃ l2:List e.den,(valPs c.ps x)[n + j]? = some (.p (.sl e.n (List.map e.enc l2) false))∧l2.length = l.length∧LeLL es (List.map e.enc l2))∧t.n = e.n∧0 < e.n∧0 < l.length →
   V.ref j 0 0 (E.ln (ss.getD j 0)) (slK ((valPs c.ps x).getD (n + j) .und)) = .ref j 0 0 (E.ln s) t.n := by
  rintro j s t t' l e b es ⟨k1,k2,k3,k4,k5,k6,k7,k8,k9,k10,⟨l2,k11,k11',k11''⟩,k12,k13,k14⟩
  simp only [List.getD,k2,k11,Option.getD_some,slK,k12]
 have hopt:optAll (ioVN us st.hp) vs = some as' := by
  have gen:∀ (l:List V) (r:List V),r.length = l.length→(∀ (i:Nat) (v a:V),l[i]? = some v→r[i]? = some a→ioVN us st.hp v = some a)→optAll (ioVN us st.hp) l = some r := by
   intro l
   induction l with
   | nil => intro r hr _; have:r = [] := List.length_eq_zero_iff.1 hr; subst this; rfl
   | cons v l ih =>
    intro r hr hh
    cases r with
    | nil => simp at hr
    | cons a r =>
     simp only [optAll,hh 0 v a rfl rfl,ih r (by simpa using hr) (fun i v a h1 h2 => hh (i + 1) v a (by simpa using h1) (by simpa using h2))]
  refine gen vs as' ?_ (fun i v a hv ha => ?_)
  ·simp only [as',List.length_append,List.length_take,List.length_map,List.length_range,ag1]; omega
  ·simp only [as'] at ha
   rw [List.getElem?_append] at ha
   have htl:(as.take n).length = n := by rw [List.length_take,ag1]; omega
   rw [htl] at ha
   split at ha
   ·rename_i hi
    rw [List.getElem?_take,if_pos hi] at ha
    obtain ⟨v',e1,e2⟩ := ag2 i a ha
    rw [hv] at e1; injection e1 with e1; subst e1
    rw [(hioA v (fun t ht => (hAok t (hAmem i v hi hv t ht)).2.2)).1]; exact e2
   ·rename_i hi
    have hi' : i - n < m := by have := (List.getElem?_eq_some_iff.1 hv).1; omega
    rw [List.getElem?_map,List.getElem?_range hi'] at ha
    simp only [Option.map_some,sJ] at ha; subst ha
    obtain ⟨s,t,t',l,e,b,es,kk⟩ := hio (i - n) hi'
    have hk := hK _ _ _ _ _ _ _ _ kk
    rw [hk]
    obtain ⟨k1,k2,k3,k4,k5,k6,_⟩ := kk
    rw [show n + (i - n) = i by omega,hv] at k4
    injection k4 with k4; subst k4
    have := hver2 (i - n) s b k2 k5 k6
    simp only [ioVN,this]
 have hopt2:∃ pss,optAll (fun q:Nat×Blk => allP q.2.cs) us = some pss∧pss.length = m∧∀ (j:Nat) (p:List Pv),pss[j]? = some p→∃ s b,ss[j]? = some s∧st.hp[s]? = some b∧b.cs = p.map .p := by
  have gen:∀ (l:List (Nat×Blk)),(∀ q∈l,∃ p,allP q.2.cs = some p)→∃ r,optAll (fun q:Nat×Blk => allP q.2.cs) l = some r := by
   intro l
   induction l with
   | nil => intro _; exact ⟨[],rfl⟩
   | cons q l ih =>
    intro hh
    obtain ⟨p,hp⟩ := hh q (by simp)
    obtain ⟨r,hr⟩ := ih (fun q hq => hh q (by simp [hq]))
    exact ⟨p :: r,by simp only [optAll,hp,hr]⟩
  obtain ⟨pss,hp⟩ := gen us (fun q hq => by
   obtain ⟨j,hj⟩ := List.getElem?_of_mem hq
   have hjl:j < m := by rw [← husl]; exact (List.getElem?_eq_some_iff.1 hj).1
   obtain ⟨s,t,t',l,e,b,es,k1,k2,k3,k4,k5,k6,k7,k8,k9,_⟩ := hio j hjl
   rw [hus j s b k2 k5] at hj; injection hj with hj; subst hj
   exact ⟨es.flatten,by rw [k9]; exact allP_mapP _⟩)
  obtain ⟨l1,l2⟩ := optAll_get us pss hp
  refine ⟨pss,hp,by rw [l1,husl],fun j p hj => ?_⟩
  obtain ⟨q,e1,e2⟩ := l2 j p hj
  have hjl:j < m := by rw [← husl]; exact (List.getElem?_eq_some_iff.1 e1).1
  obtain ⟨s,t,t',l,e,b,es,k1,k2,k3,k4,k5,_⟩ := hio j hjl
  rw [hus j s b k2 k5] at e1; injection e1 with e1; subst e1
  exact ⟨s,b,k2,k5,allP_map e2⟩
 obtain ⟨pss,hpss,hpl,hpget⟩ := hopt2
 have hioS:vs.flatMap (ioSN us) = (vs.take n).flatMap slots := by
  have hsplit:vs = vs.take n ++ vs.drop n := (List.take_append_drop n vs).symm
  have e1:(vs.drop n).flatMap (ioSN us) = [] := by
   rw [List.flatMap_eq_nil_iff]
   intro v hv
   obtain ⟨j,hj⟩ := List.getElem?_of_mem hv
   rw [List.getElem?_drop] at hj
   have hjm:j < m := by have := (List.getElem?_eq_some_iff.1 hj).1; omega
   obtain ⟨v',s,t,k1,_,_,_,k5⟩ := hioB j hjm
   rw [hj] at k1; injection k1 with k1; subst k1
   exact k5
  have e2:(vs.take n).flatMap (ioSN us) = (vs.take n).flatMap slots := by
   have:∀ v∈vs.take n,ioSN us v = slots v := fun v hv => (hioA v (fun t ht => (hAok t (List.mem_flatMap.2 ⟨v,hv,ht⟩)).2.2)).2
   have gen:∀ (l:List V),(∀ v∈l,ioSN us v = slots v)→l.flatMap (ioSN us) = l.flatMap slots := by
    intro l
    induction l with
    | nil => intro _; rfl
    | cons a l ih => intro hh; rw [List.flatMap_cons,List.flatMap_cons,hh a (by simp),ih (fun v hv => hh v (by simp [hv]))]
   exact gen _ this
  rw [hsplit,List.flatMap_append,e1,e2,List.append_nil,← hsplit]
 have hret' : RetN P f as' pss (oneOf ((valPs c.rs (c.fn x)).take (c.rs.length - m))) (((valPs c.rs (c.fn x)).drop (c.rs.length - m)).map fun v => (slEs v).flatten) := by
  have hrefs:∀ (k:Nat) (l:List V),(ioRefs k l).length = l.length∧∀ (j:Nat) (v:V),l[j]? = some v→(ioRefs k l)[j]? = some (.ref (k + j) 0 0 (slEs v).length (slK v)) := by
   intro k l
   induction l generalizing k with
   | nil => exact ⟨rfl,by simp⟩
   | cons a l ih =>
    obtain ⟨i1,i2⟩ := ih (k + 1)
    refine ⟨by simp [ioRefs,i1],fun j v hv => ?_⟩
    match j with
    | 0 => simp only [List.getElem?_cons_zero,sJ] at hv; subst hv; rfl
    | j + 1 =>
     have := i2 j v (by simpa using hv)
     simp only [ioRefs,List.getElem?_cons_succ,this]
     congr 2; omega
  obtain ⟨r1,r2⟩ := hrefs 0 ((valPs c.ps x).drop (c.ps.length - m))
  refine retN_le (bs := (valPs c.ps x).take (c.ps.length - m) ++ ioRefs 0 ((valPs c.ps x).drop (c.ps.length - m))) ?_ (fun i a b ha hb => ?_) (qss := ((valPs c.ps x).drop (c.ps.length - m)).map fun v => (slEs v).flatten) ?_ (fun j p q hp hq => ?_) hret
  ·simp only [as',List.length_append,List.length_take,List.length_map,List.length_range,r1,List.length_drop,vl1,ag1]; omega
  ·simp only [as'] at ha
   have htl:(as.take n).length = n := by rw [List.length_take,ag1]; omega
   have htl2:((valPs c.ps x).take n).length = n := by rw [List.length_take,vl1]; omega
   rw [List.getElem?_append,htl] at ha
   rw [show c.ps.length - m = n from rfl,List.getElem?_append,htl2] at hb
   by_cases hi:i < n
   ·rw [if_pos hi,List.getElem?_take,if_pos hi] at ha hb
    right
    obtain ⟨v',e1,e2⟩ := ag2 i a ha
    exact ⟨⟨_,_,e2⟩,g2.2 i a b ha hb⟩
   ·left
    rw [if_neg hi] at ha hb
    have hi' : i - n < m := by
     have := (List.getElem?_eq_some_iff.1 ha).1
     simpa using this
    rw [List.getElem?_map,List.getElem?_range hi'] at ha
    simp only [Option.map_some,sJ] at ha; subst ha
    obtain ⟨s,t,t',l,e,b0,es,kk⟩ := hio (i - n) hi'
    rw [hK _ _ _ _ _ _ _ _ kk]
    obtain ⟨k1,k2,k3,k4,k5,k6,k7,k8,k9,k10,⟨l2,k11,k11',k11''⟩,k12,k13,k14⟩ := kk
    have := r2 (i - n) _ (by rw [List.getElem?_drop]; exact k11)
    rw [show c.ps.length - m = n from rfl] at this
    rw [this] at hb
    injection hb with hb; subst hb
    simp only [slEs,slK,List.length_map,Nat.zero_add,k11',k8,k12]
  ·rw [List.length_map,List.length_drop,vl1,hpl]; omega
  ·obtain ⟨s,b,e1,e2,e3⟩ := hpget j p hp
   obtain ⟨s',t,t',l,e,b',es,k1,k2,k3,k4,k5,k6,k7,k8,k9,k10,⟨l2,k11,k11',k11''⟩,k12,k13,k14⟩ := hio j (hjm e1)
   rw [e1] at k2; injection k2 with k2; subst k2
   rw [e2] at k5; injection k5 with k5; subst k5
   have hpe:p = es.flatten := by
    have:p.map V.p = es.flatten.map V.p := e3.symm.trans k9
    exact (List.map_inj_right (fun a b h => by injection h)).1 this
   rw [List.getElem?_map,List.getElem?_drop,show c.ps.length - m = n from rfl,k11] at hq
   simp only [Option.map_some,sJ] at hq; subst hq
   rw [hpe]
   exact k11''.flat
 refine ⟨h1,g3,?_,oneOf ((valPs c.rs (c.fn x)).take (c.rs.length - m)),setAll (frzAll st.hp (vs.flatMap (ioSN us))) us (((valPs c.rs (c.fn x)).drop (c.rs.length - m)).map fun v => (slEs v).flatten),?_,?_⟩
 ·simp only [wrC,g3]
  congr 1
  apply List.filter_congr
  intro t ht
  refine live_rel h ?_
  rw [← List.take_append_drop n args,List.flatMap_append,List.mem_append] at ht
  rcases ht with ht | ht
  ·rw [hA] at ht; exact (hAok t ht).2.1
  ·obtain ⟨c0,hc0,ht⟩ := List.mem_flatMap.1 ht
   obtain ⟨j,hj⟩ := List.getElem?_of_mem hc0
   have hjm:j < m := by have := (List.getElem?_eq_some_iff.1 hj).1; rw [List.length_drop] at this; omega
   obtain ⟨s,t1,t',l,e,b,es,k1,k2,k3,_⟩ := hio j hjm
   rw [List.getElem?_drop,k1] at hj; injection hj with hj; subst hj
   have:t = s := by simpa [slotsT,slotT1] using ht
   subst this
   rw [k3]; intro e; cases e
 ·refine .ion as' _ us pss _ (by rw [hus1]; exact hnd) (fun q hq => ?_) (fun q hq => ?_) hpss hopt ?_ hret'
  ·obtain ⟨j,hj⟩ := List.getElem?_of_mem hq
   have hjl:j < m := by rw [← husl]; exact (List.getElem?_eq_some_iff.1 hj).1
   obtain ⟨s,t,t',l,e,b,es,k1,k2,k3,k4,k5,_⟩ := hio j hjl
   rw [hus j s b k2 k5] at hj; injection hj with hj; subst hj
   exact List.mem_flatMap.2 ⟨_,List.mem_of_getElem? k4,by simp [slots,slotC]⟩
  ·obtain ⟨j,hj⟩ := List.getElem?_of_mem hq
   have hjl:j < m := by rw [← husl]; exact (List.getElem?_eq_some_iff.1 hj).1
   obtain ⟨s,t,t',l,e,b,es,k1,k2,k3,k4,k5,k6,k7,k8,k9,k10,⟨l2,k11,k11',k11''⟩,k12,k13,k14⟩ := hio j hjl
   rw [hus j s b k2 k5] at hj; injection hj with hj; subst hj
   refine ⟨k5,k7,?_⟩
   rw [k9,List.length_map]
   have h5:es.flatten.length = es.length * e.n := flat_len es (fun e' he' => by
    have := lell_len k11'' e' he'; exact this)
   have h6:es.length = l.length := by rw [lell_n k11'']; exact k11'
   rw [h5,h6]
   exact Nat.mul_pos k14 k13
  ·rw [hioS,List.all_eq_true]
   intro t ht
   obtain ⟨q1,_,q3⟩ := hAok t ht
   rw [hus1]
   simp [q1,q3]
 ·rw [hioS,← hA,hn]
  obtain ⟨c1,c2⟩ := frz_conc (ss := (args.take n).flatMap slotsT) h
  have hfr:∀ (s:Nat),s∈ss→(frzAll st.hp ((args.take n).flatMap slotsT))[s]? = st.hp[s]? := fun s hs => frzAll_other' _ _ _ (fun e => (hAok s (by rw [← hA]; exact e)).2.2 hs)
  have hres:∀ j,j < m→∃ s b e,∃ l' : List e.den,ss[j]? = some s∧st.hp[s]? = some b∧b.ver = E.vr s∧((tvPs c.rs (c.fn x)).drop (c.rs.length - m))[j]? = some (.sl e l')∧((valPs c.rs (c.fn x)).drop (c.rs.length - m))[j]? = some (.p (.sl e.n (List.map e.enc l') false))∧E.ln s = l'.length := by
   intro j hj
   obtain ⟨s,t,t',l,e,b,es,k1,k2,k3,k4,k5,k6,k7,k8,k9,k10,⟨l2,k11,k11',k11''⟩,k12,k13,k14⟩ := hio j hj
   have eqGet:∀ (a b:List PSh),psEq a b = true→∀ (i:Nat) (p:PSh),a[i]? = some p→b[i]? = some p := by
    intro a
    induction a with
    | nil => intro b _ i p h; simp at h
    | cons a r ih =>
     intro b hb i p hp
     cases a with
     | one ta =>
      cases b with
      | nil => simp [psEq] at hb
      | cons b s =>
       cases b with
       | one tb =>
        simp only [psEq,Bool.and_eq_true] at hb
        match i with
        | 0 => simp only [List.getElem?_cons_zero,sJ] at hp ⊢; rw [← hp,Ty.beq_eq hb.1]
        | i + 1 => exact ih s hb.2 i p (by simpa using hp)
       | _ => simp [psEq] at hb
     | _ => simp [psEq] at hb
   have hrp := eqGet _ _ hpsEq j (.one (.sl e)) (by rw [List.getElem?_drop]; exact k10)
   rw [List.getElem?_drop] at hrp
   obtain ⟨l',y1,y2⟩ := rl3 _ _ hrp
   refine ⟨s,b,e,l',k2,k5,k6,by rw [List.getElem?_drop]; exact y2,by rw [List.getElem?_drop]; exact y1,?_⟩
   have hl := congrArg (·[j]?) hlens
   simp only [List.getElem?_map,List.getElem?_drop] at hl
   rw [y1,show c.ps.length - m = n from rfl,k11] at hl
   simp only [Option.map_some,sJ,valP,Ty.enc,slEs,List.length_map] at hl
   rw [k8,← k11',hl]
  obtain ⟨d1,d2⟩ := putsC_conc (ss := ss) (ts := (tvPs c.rs (c.fn x)).drop (c.rs.length - m)) (us := us) (pss := ((valPs c.rs (c.fn x)).drop (c.rs.length - m)).map fun v => (slEs v).flatten) c1 (by rw [husl,hssl]) (by rw [List.length_drop,rl2,hssl]; omega) (by rw [List.length_map,List.length_drop,rl1,hssl]; omega)
   (fun j s hj => by
    obtain ⟨s',b,e,l',e1,e2,e3,e4,e5,e6⟩ := hres j (hjm hj)
    rw [hj] at e1; injection e1 with e1; subst e1
    refine ⟨b,e,l',hus j s b hj e2,?_,e3,e4,by rw [List.getElem?_map,e5]; rfl,e6⟩
    dsimp only
    rw [hfr s (List.mem_of_getElem? hj),e2]; simp)
  refine ⟨d1,c2.trans d2,?_⟩
  have hall := tvPs_rel (E := E) c.rs (c.fn x)
  have htake := hall.take (c.rs.length - m)
  unfold oneT oneOf
  match h1:(tvPs c.rs (c.fn x)).take (c.rs.length - m),h2:(valPs c.rs (c.fn x)).take (c.rs.length - m),htake with
  | [],[],h => exact .tup _ _ h.1 h.2
  | [a],[v],h => exact h.2 0 a v rfl rfl
  | a :: a' :: cs,v :: v' :: vs,h => exact .tup _ _ h.1 h.2

theorem callS_rel (hC:ConsOk P X.C) (h:Conc X.nt X.ns E T st) {f:FuncId} {args:List TV} {vs:List V} (hr:LRel E args vs) {s:Nat} {ps:List Prop} {tv:TV} {T' : TSt} (hc:callS X T f args s = some (ps,tv,T')) (hps:∀ p∈ps,p) :
  callable P f = true∧vs.flatMap slots = args.flatMap slotsT∧wrC st.hp vs s = (args.flatMap slotsT).filter (liveT T) ++ [s]∧∃ v hp' E',CallR P X.m s st.hp f vs v hp'∧Conc X.nt X.ns E' T' ⟨st.ts,hp'⟩∧Hist E T E' T'∧TRel E' tv v := by
 unfold callS at hc
 split at hc
 ·rename_i r hr'
  simp only [sJ] at hc; subst hc
  obtain ⟨g1,g2,g3,v,hp',g4,g5,g6,g7⟩ := callM_rel hC h hr hr' hps s
  exact ⟨g1,g2,g3,v,hp',E,g4,g5,g6,g7⟩
 ·split at hc
  ·rename_i r hr'
   simp only [sJ] at hc; subst hc
   exact callO_rel hC h hr hr' hps
  ·split at hc
   ·rename_i r hr'
    simp only [sJ] at hc; subst hc
    obtain ⟨g1,g2,g3,v,hp',g4,g5,g6,g7⟩ := callN_rel hC h hr hr' hps s
    exact ⟨g1,g2,g3,v,hp',E,g4,g5,g6,g7⟩
   ·obtain ⟨g1,g2,g3,v,hp',g4,g5,g6,g7⟩ := callN_rel hC h hr hc hps s
    exact ⟨g1,g2,g3,v,hp',E,g4,g5,g6,g7⟩

theorem tdo_sound (hC:ConsOk P X.C) (h:Conc X.nt X.ns E T st) {raw:Opd→TV} (hraw:∀ x,TRel E (raw x) (st.get x)) {op:AI} {ps:List Prop} {tv:TV} {T' : TSt} (hd:tdo X raw T op = some (ps,tv,T')) (hps:∀ p∈ps,p) :
  ∃ v hp' E',DoRes P X.m st op v hp'∧Conc X.nt X.ns E' T' ⟨st.ts,hp'⟩∧Hist E T E' T'∧TRel E' tv v∧evTouch st op = fpT raw T op := by
 have viaCall:(match argsT raw op with
  | some (f,args) => match callS X T f args (siteI op) with
   | some r => some r
   | none => match callT X T f args with
    | some (ps,tv,ss) => some (ps,tv,frzT T ss)
    | none => none
  | none => none) = some (ps,tv,T')→fpT raw T op = (match argsT raw op with
  | some (_,args) => (args.flatMap slotsT ++ [siteI op],(args.flatMap slotsT).filter (liveT T) ++ [siteI op])
  | none => ([],[]))→∃ v hp' E',DoRes P X.m st op v hp'∧Conc X.nt X.ns E' T' ⟨st.ts,hp'⟩∧Hist E T E' T'∧TRel E' tv v∧evTouch st op = fpT raw T op := by
  intro hd hf
  split at hd
  ·rename_i f args hargs
   split at hd
   ·rename_i r hc
    simp only [sJ] at hd; subst hd
    obtain ⟨vs,k1,k2,k3⟩ := argsT_rel (P := P) hraw hargs
    obtain ⟨g1,g2,g3,v,hp',E',g4,g5,g6,g7⟩ := callS_rel hC h k1 hc hps
    refine ⟨v,hp',E',k2 _ _ _ g1 g4,g5,g6,g7,?_⟩
    rw [k3,hf,hargs,g2,g3]
   split at hd
   ·rename_i ps' tv' ss hc
    simp only [sJ,pJ] at hd; obtain ⟨rfl,rfl,rfl⟩ := hd
    obtain ⟨vs,k1,k2,k3⟩ := argsT_rel (P := P) hraw hargs
    obtain ⟨g1,g2,g3,g4,v,g5,g6⟩ := callT_rel hC h k1 hc hps (siteI op)
    obtain ⟨c1,c2⟩ := frz_conc (ss := ss) h
    refine ⟨v,_,E,k2 _ _ _ g1 g5,c1,c2,g6,?_⟩
    rw [k3,hf,hargs,g2,g3,g4]
   ·cases hd
  ·cases hd
 cases op with
 | op o =>
  simp only [tdo] at hd
  split at hd
  ·rename_i ps' tv' hp
   simp only [sJ,pJ] at hd; obtain ⟨rfl,rfl,rfl⟩ := hd
   obtain ⟨v,h1,h2⟩ := tpure_sound h hraw hp hps
   have ht := pure_hp hp hraw
   exact ⟨v,st.hp,E,h1,h,.refl _ _,h2,by simp only [evTouch,fpT,wrs,ht]⟩
  ·obtain ⟨v,hp',E',h1,h2,h3,h4⟩ := tstate_sound h hraw hd hps
   have ht := state_hp hd hraw
   exact ⟨v,hp',E',h1,h2,h3,h4,by simp only [evTouch,fpT,wrs,ht]⟩
 | call s f args => exact viaCall hd rfl
 | callv s x args => exact viaCall hd rfl

theorem tdoP_sound (hC:ConsOk P X.C) (h:Conc X.nt X.ns E T st) {raw:Opd→TV} (hraw:∀ x,TRel E (raw x) (st.get x)) {op:AI} {ps:List Prop} {tv:TV} (hd:tdoP X raw T op = some (ps,tv)) (hps:∀ p∈ps,p) :
  ∃ v hp',DoRes P X.m st op v hp'∧Conc X.nt X.ns E T ⟨st.ts,hp'⟩∧TRel E tv v∧evTouch st op = fpT raw T op := by
 have viaCall:(match argsT raw op with
  | some (f,args) => match callT X T f args with
   | some (ps,tv,ss) => match ss.all (fun s => !liveT T s) with
    | true => some (ps,tv)
    | false => none
   | none => none
  | none => none) = some (ps,tv)→fpT raw T op = (match argsT raw op with
  | some (_,args) => (args.flatMap slotsT ++ [siteI op],(args.flatMap slotsT).filter (liveT T) ++ [siteI op])
  | none => ([],[]))→∃ v hp',DoRes P X.m st op v hp'∧Conc X.nt X.ns E T ⟨st.ts,hp'⟩∧TRel E tv v∧evTouch st op = fpT raw T op := by
  intro hd hf
  split at hd
  ·rename_i f args hargs
   split at hd
   ·rename_i ps' tv' ss hc
    split at hd
    ·rename_i hall
     simp only [sJ,pJ] at hd; obtain ⟨rfl,rfl⟩ := hd
     obtain ⟨vs,k1,k2,k3⟩ := argsT_rel (P := P) hraw hargs
     obtain ⟨g1,g2,g3,g4,v,g5,g6⟩ := callT_rel hC h k1 hc hps (siteI op)
     have hT:frzT T ss = T := by
      rw [List.all_eq_true] at hall
      clear g5 g4 g3 g2 k3 hc
      induction ss with
      | nil => rfl
      | cons a r ih =>
       have ha := hall a (by simp)
       have e:frz1T T a = T := by
        simp only [liveT,Bool.not_eq_true'] at ha
        unfold frz1T
        split
        ·rename_i cs hcs; rw [hcs] at ha; simp at ha
        ·rename_i t l hcs; rw [hcs] at ha; simp at ha
        ·rfl
       rw [frzT,e]
       exact ih (fun x hx => hall x (by simp [hx]))
     obtain ⟨c1,c2⟩ := frz_conc (ss := ss) h
     rw [hT] at c1
     exact ⟨v,_,k2 _ _ _ g1 g5,c1,g6,by rw [k3,hf,hargs,g2,g3,g4]⟩
    ·cases hd
   ·cases hd
  ·cases hd
 cases op with
 | op o =>
  simp only [tdoP] at hd
  obtain ⟨v,h1,h2⟩ := tpure_sound h hraw hd hps
  have ht := pure_hp hd hraw
  exact ⟨v,st.hp,h1,h,h2,by simp only [evTouch,fpT,wrs,ht]⟩
 | call s f args => exact viaCall hd rfl
 | callv s x args => exact viaCall hd rfl

omit [Laid] in
theorem put_conc (h:Conc X.nt X.ns E T st) {d:Option Nat} (hd:dOk X.nt d = true) {tv:TV} {v:V} (hv:TRel E tv v):Conc X.nt X.ns E (putT T d tv) (st.put d v) := by
 cases d with
 | none => exact h
 | some d =>
  have hd:d < st.ts.length := by rw [h.lt]; exact Nat.ble_eq.mp hd
  refine ⟨by simp [St.put,h.lt],h.lh,fun n => ?_,h.c,h.v0⟩
  simp only [putT,St.put,St.get,List.getElem?_set]
  by_cases e:n = d
  ·subst e
   rw [beq_self,if_pos rfl,if_pos hd]
   exact hv
  ·rw [beq_ne e,if_neg (fun x => e x.symm)]
   exact h.ts n
omit [Laid] in
theorem put_hist {d:Option Nat} {tv:TV}:Hist E T E (putT T d tv) := by
 cases d with
 | none => exact .refl _ _
 | some d => exact fun s => ⟨Nat.le_refl _,Nat.le_refl _,fun _ => ⟨rfl,rfl⟩,fun _ => rfl⟩

omit [Laid] in
theorem put_get {d:Option Nat} {v:V} {hp:List Blk} {n:Nat} (h:d ≠ some n):(St.put ⟨st.ts,hp⟩ d v).get (.t n) = st.get (.t n) := by
 cases d with
 | none => rfl
 | some d =>
  simp only [St.put,St.get,List.getElem?_set]
  rw [if_neg (fun e => h (by rw [e]))]

def FpLe (a b:List Nat×List Nat):Prop := (∀ x∈a.1,x∈b.1)∧∀ x∈a.2,x∈b.2

omit [Laid] in
theorem rdG_rel {raw:Opd→TV} (hraw:∀ x,TRel E (raw x) (st.get x)) {g:Nat} {b want:Bool}:∀ {l:List Opd},(∀ p∈rdGP g b want (l.map raw),p)→b = want→∀ x∈l,TRel E (rdG g want (raw x)) (st.get x)
 | [],_,_,x,hx => by cases hx
 | y :: l,hp,hb,x,hx => by
  have hy := hraw y
  have split:(∀ p∈rdGP g b want (l.map raw),p)∧TRel E (rdG g want (raw y)) (st.get y) := by
   simp only [List.map_cons] at hp
   cases hr:raw y with
   | opt g' b' want' v =>
    rw [hr] at hp hy
    simp only [rdGP] at hp
    simp only [rdG]
    split at hp
    ·rename_i hc
     rw [if_pos hc]
     refine ⟨fun p hp' => hp p (by simp [hp']),hy.inv_opt ?_⟩
     have:b' = b := hp _ (List.mem_cons_self ..)
     rw [this,hb,hc.2]
    ·rename_i hc
     rw [if_neg hc]
     exact ⟨hp,hy⟩
   | _ => rw [hr] at hp hy; exact ⟨hp,hy⟩
  rcases List.mem_cons.1 hx with rfl | hx
  ·exact split.2
  ·exact rdG_rel hraw split.1 hb x hx

omit [Laid] in
theorem guardT_rel {want:Bool} {x:TV} {v:V} {b:Bool} (hx:TRel E x v) (h:guardT want x = some b):(v = .no ∨ ∃ c,v = .p (.bool c)∧(c = want ↔ b = want))∧(v = .no→b ≠ want) := by
 unfold guardT at h
 split at h
 ·simp only [sJ] at h; subst h
  rw [hx.inv_b]
  exact ⟨.inr ⟨_,rfl,Iff.rfl⟩,fun e => by cases e⟩
 ·rename_i g b' w b2
  simp only [sJ] at h; subst h
  by_cases e:b' = w
  ·have := hx.inv_opt e
   rw [this.inv_b]
   subst e
   refine ⟨.inr ⟨b2,rfl,?_⟩,fun e => by cases e⟩
   cases b' <;> cases b2 <;> cases want <;> simp [effB]
  ·rw [hx.inv_opt2 e]
   refine ⟨.inl rfl,fun _ => ?_⟩
   cases b' <;> cases w <;> cases b2 <;> cases want <;> simp_all [effB]
 ·cases h

theorem tins_sound (hC:ConsOk P X.C) {i:AIns} (h:Conc X.nt X.ns E T st) {k:TSt→List Nat×List Nat→Prop} (hk:tins X i T k) :
  (i.guard = none∧∃ v hp' E' T' fp,DoRes P X.m st i.op v hp'∧evTouch st i.op = fp∧Conc X.nt X.ns E' T' (St.put ⟨st.ts,hp'⟩ i.dst v)∧Hist E T E' T'∧k T' fp) ∨
  ∃ g want b,i.guard = some (some g,want)∧(st.get (.t g) = .no ∨ ∃ c,st.get (.t g) = .p (.bool c)∧(c = want ↔ b = want))∧(st.get (.t g) = .no→b ≠ want) ∧
   (b = want→∃ v hp' E' T' fp,DoRes P X.m st i.op v hp'∧evTouch st i.op = fp∧Conc X.nt X.ns E' T' (St.put ⟨st.ts,hp'⟩ i.dst v)∧Hist E T E' T'∧k T' fp) ∧
   (b ≠ want→∃ E' T' fp,Conc X.nt X.ns E' T' (st.put i.dst .no)∧Hist E T E' T'∧k T' fp) := by
 classical
 have hraw := raw_rel h
 unfold tins at hk
 split at hk
 ·exact hk.elim
 ·rename_i hdst
  split at hk
  ·rename_i hg
   left
   refine ⟨hg,?_⟩
   split at hk
   ·rename_i ps tv T' hd
    obtain ⟨hps,hk⟩ := conj_iff.1 hk
    obtain ⟨v,hp',E',h1,h2,h3,h4,h5⟩ := tdo_sound hC h hraw hd hps
    exact ⟨v,hp',E',_,_,h1,h5,put_conc h2 hdst h4,h3.trans put_hist,hk⟩
   ·exact hk.elim
  ·rename_i g want hg
   right
   split at hk
   ·rename_i b hb
    have hgb := guardT_rel (h.ts g) hb
    refine ⟨g,want,b,hg,hgb.1,hgb.2,?_⟩
    -- under the guard
    let raw1:Opd→TV := fun x => rdG g want (T.raw x)
    let raw2:Opd→TV := fun x => if x∈optsI i then raw1 x else .und
    have under:(∀ p∈rdGP g b want ((optsI i).map T.raw),p)→b = want→∀ x,TRel E (raw2 x) (st.get x) := by
     intro hp hbw x
     simp only [raw2]
     split
     ·rename_i hx; exact rdG_rel hraw hp hbw x hx
     ·exact .und _
    have cong := tdo_congr (X := X) (T := T) (raw := raw1) (raw2 := raw2) (i := i) (fun x hx => if_pos hx)
    split at hk
    ·rename_i ps tv hd
     obtain ⟨hps,hk⟩ := conj_iff.1 hk
     refine ⟨fun hbw => ?_,fun hbw => ⟨E,_,_,put_conc h hdst (.opt _ _ _ _ _ (fun e => absurd e hbw) fun _ => rfl),put_hist,hk⟩⟩
     have hps' : ∀ p∈rdGP g b want ((optsI i).map T.raw) ++ ps,p := fun p hp => hps _ (List.mem_map.2 ⟨p,hp,rfl⟩) hbw
     have hr2 := under (fun p hp => hps' p (by simp [hp])) hbw
     obtain ⟨v,hp',h1,h2,h3,h4⟩ := tdoP_sound hC h hr2 (by rw [cong.2.1]; exact hd) (fun p hp => hps' p (by simp [hp]))
     rw [cong.2.2] at h4
     exact ⟨v,hp',E,_,_,h1,h4,put_conc h2 hdst (.opt _ _ _ _ _ (fun _ => h3) fun e => absurd hbw e),put_hist,hk⟩
    ·split at hk
     ·rename_i ps tv T' hd
      obtain ⟨hk1,hk2⟩ := hk
      refine ⟨fun hbw => ?_,fun hbw => ⟨E,_,_,put_conc h hdst .no,put_hist,hk2 (by cases b <;> cases want <;> simp_all)⟩⟩
      obtain ⟨hps',hk⟩ := conj_iff.1 (hk1 hbw)
      have hr2 := under (fun p hp => hps' p (by simp [hp])) hbw
      obtain ⟨v,hp',E',h1,h2,h3,h4,h5⟩ := tdo_sound hC h hr2 (by rw [cong.1]; exact hd) (fun p hp => hps' p (by simp [hp]))
      rw [cong.2.2] at h5
      exact ⟨v,hp',E',_,_,h1,h5,put_conc h2 hdst h4,h3.trans put_hist,hk⟩
     ·obtain ⟨hk1,hk2⟩ := hk
      exact ⟨fun hbw => (hk1 hbw).elim,fun hbw => ⟨E,_,_,put_conc h hdst .no,put_hist,hk2 (by cases b <;> cases want <;> simp_all)⟩⟩
   ·exact hk.elim
  ·exact hk.elim
end
end Go.Mx
