/- Layers of the walk: abstract values, operations, calls, loops, and what they do. No condition. -/
import Derived.Test.YtcdbaepeabefnaaTxH
namespace Go.Mx

structure Cx where
 nt:Nat
 ns:Nat
 m:Nat
 A:Nat→Ty
 C:Cons

def conj:List Prop→Prop→Prop
 | [],k => k
 | p :: r,k => p∧conj r k
theorem jhV {ps:List Prop} {k:Prop}:conj ps k ↔ (∀ p∈ps,p)∧k := by
 induction ps with
 | nil => simp [conj]
 | cons p r ih => simp only [conj,ih,List.mem_cons,forall_eq_or_imp,and_assoc]

variable [Laid]
def jdE:TC→Bool
 | .dead => false
 | _ => true

def jgn (X:Cx) (T:TSt) (f:FuncId) (args:List TV):Option (List Prop×TV×List Nat) :=
 match jj1 (jhT args) with
 | true => none
 | false => match jd4 f (jhT args) X.C with
  | some c => match jbI T.c c.ps args with
   | some x => match (args.flatMap jaN).all (fun s => Nat.ble X.m s && jdE (T.c s)) with
    | true => some (c.pre x,tvR c.rs (c.fn x),args.flatMap jaN)
    | false => none
   | none => none
  | none => none

def joH:TV→Bool
 | .i _ _ | .b _ | .s _ | .sl _ _ => true
 | _ => false
def joI (X:Cx) (T:TSt) (f:FuncId) (args:List TV):Option (List Prop×TV×TSt) :=
 match args with
 | [.ptr s 0 []] => match jd4 f jjW X.C with
  | some ⟨[.ptr t],[.one r,.agg t'],pre,fn⟩ => match T.c s with
   | .cells true cs => match Nat.blt 0 t.n && Nat.beq cs.length t.n,imp1 t cs with
    | true,some x => some (pre x,tvR [.one r] (fn x).1,jb6 T s (.cells true (jbo t' (fn x).2)))
    | _,_ => none
   | _ => none
  | _ => none
 | [a,.ptr s 0 []] => match joH a,jd4 f jjW X.C with
  | true,some ⟨[.one u,.ptr t],[.one r,.agg t'],pre,fn⟩ => match jdb T.c (.one u) a,T.c s with
   | some z,.cells true cs => match Nat.blt 0 t.n && Nat.beq cs.length t.n,imp1 t cs with
    | true,some x => some (pre (z,x),tvR [.one r] (fn (z,x)).1,jb6 T s (.cells true (jbo t' (fn (z,x)).2)))
    | _,_ => none
   | _,_ => none
  | _,_ => none
 | _ => none

def joJ (X:Cx) (T:TSt) (f:FuncId) (args:List TV) (s:Nat):Option (List Prop×TV×TSt) :=
 match jd4 f jjY X.C with
 | some ⟨ps,[.one (.sl e)],pre,fn⟩ => match jbI T.c ps args,(args.flatMap jaN).all (fun s => Nat.ble X.m s && jdE (T.c s)) && Nat.blt s X.ns with
  | some x,true => some (pre x,.own s e,jbH (frzT T (args.flatMap jaN)) s (.dyn true e (fn x)))
  | _,_ => none
 | some ⟨ps,[.agg (.sl e)],pre,fn⟩ => match jbI T.c ps args,(args.flatMap jaN).all (fun s => Nat.ble X.m s && jdE (T.c s)) && Nat.blt s X.ns with
  | some x,true => some (pre x,.agg [.own s e],jbH (frzT T (args.flatMap jaN)) s (.dyn true e (fn x)))
  | _,_ => none
 | some ⟨ps,[.agg (.pr (.int k) (.sl e))],pre,fn⟩ => match jbI T.c ps args,(args.flatMap jaN).all (fun s => Nat.ble X.m s && jdE (T.c s)) && Nat.blt s X.ns with
  | some x,true => some (pre x,.agg [.i k (fstI (fn x)),.own s e],jbH (frzT T (args.flatMap jaN)) s (.dyn true e (sndL (fn x))))
  | _,_ => none
 | _ => none

def jgo (look:Nat→TC):List TV→Option (List Nat×List Prop)
 | [] => some ([],[])
 | .own s t :: r => match look s,jgo look r with
  | .dyn true t' l,some (ss,ps) => match Nat.beq t'.n t.n with
   | true => some (s :: ss,(0 < l.length) :: ps)
   | false => none
  | _,_ => none
 | _ :: _ => none
def jj4 (T:TSt):List Nat→List TV→TSt
 | s :: ss,.sl e l :: r => jj4 (jb6 T s (.dyn true e l)) ss r
 | _,_ => T
def jj5:List Nat→Bool
 | [] => true
 | s :: r => !(r.any fun t => Nat.beq t s) && jj5 r
def oneT:List TV→TV
 | [v] => v
 | vs => .tup vs
def jj6 (X:Cx) (T:TSt) (f:FuncId) (args:List TV) (m:Nat):Option (List Prop×TV×TSt) :=
 match jd4 f (jjZ m) X.C with
 | some c => match jbI T.c c.ps args,jgo T.c (args.drop (args.length - m)) with
  | some x,some (ss,ps) => match jj5 ss && ((args.take (args.length - m)).flatMap jaN).all (fun s => Nat.ble X.m s && jdE (T.c s) && !(ss.any fun t => Nat.beq t s)) && Nat.beq args.length c.ps.length && Nat.blt 0 m with
   | true => some (ps ++ c.pre x,oneT ((tvPs c.rs (c.fn x)).take (c.rs.length - m)),jj4 (frzT T ((args.take (args.length - m)).flatMap jaN)) ss ((tvPs c.rs (c.fn x)).drop (c.rs.length - m)))
   | false => none
  | _,_ => none
 | none => none
def jj7 (X:Cx) (T:TSt) (f:FuncId) (args:List TV) (s:Nat):Option (List Prop×TV×TSt) :=
 match joI X T f args with
 | some r => some r
 | none => match joJ X T f args s with
  | some r => some r
  | none => match jj6 X T f args 1 with
   | some r => some r
   | none => jj6 X T f args 2

def jcD (raw:Opd→TV):AI→Option (FuncId×List TV)
 | .op _ => none
 | .call _ f args => some (f,args.map fun x => jaj (raw x))
 | .callv _ x args => match jaj (raw x) with
  | .clo f caps => some (f,(args.map fun x => jaj (raw x)) ++ caps)
  | .fn f caps => some (f,(args.map fun x => jaj (raw x)) ++ caps.map fun c => .ipt (jbo c.1 c.2))
  | _ => none
def jcP:AI→Nat
 | .op _ => 0
 | .call s _ _ => s
 | .callv s _ _ => s

def jcQ (raw:Opd→TV):AOp→List Nat
 | .newz s _ | .box s _ | .bsl true s _ _ _ _ | .mk s _ _ _ _ => [s]
 | .ld1 x | .ldn _ x | .sla _ _ x _ _ | .st _ x _ => jco (jaj (raw x))
 | .app s _ _ x y => s :: (jco (jaj (raw x)) ++ jco (jaj (raw y)))
 | _ => []

def tdoP (X:Cx) (raw:Opd→TV) (T:TSt) (op:AI):Option (List Prop×TV) := match op with
 | .op o => jaz X.A T.c raw o
 | op => match jcD raw op with
  | some (f,args) => match jgn X T f args with
   | some (ps,tv,ss) => match ss.all (fun s => !jcC T s) with
    | true => some (ps,tv)
    | false => none
   | none => none
  | none => none
def tdo (X:Cx) (raw:Opd→TV) (T:TSt) (op:AI):Option (List Prop×TV×TSt) := match op with
 | .op o => match jaz X.A T.c raw o with
  | some (ps,tv) => some (ps,tv,T)
  | none => jbD X.ns X.A T raw o
 | op => match jcD raw op with
  | some (f,args) => match jj7 X T f args (jcP op) with
   | some r => some r
   | none => match jgn X T f args with
    | some (ps,tv,ss) => some (ps,tv,frzT T ss)
    | none => none
  | none => none
def fpT (raw:Opd→TV) (T:TSt) (op:AI):List Nat×List Nat := match op with
 | .op o => (jcQ raw o,if isW o then jcQ raw o else [])
 | op => match jcD raw op with
  | some (_,args) => (args.flatMap jaN ++ [jcP op],(args.flatMap jaN).filter (jcC T) ++ [jcP op])
  | none => ([],[])

def putT (T:TSt) (d:Option Nat) (v:TV):TSt := match d with
 | some d => { T with ts := fun n => match Nat.beq n d with | true => v | false => T.ts n }
 | none => T
def dOk (nt:Nat):Option Nat→Bool
 | some d => Nat.blt d nt
 | none => true

def effB (b w:Bool) (b2 want:Bool):Bool := match w,want with
 | true,true => b && b2
 | false,true => !b && b2
 | true,false => !b || b2
 | false,false => b || b2
def joK (want:Bool):TV→Option Bool
 | .b b => some b
 | .opt _ b w (.b b2) => some (effB b w b2 want)
 | _ => none

def tins (X:Cx) (i:AIns) (T:TSt) (k:TSt→List Nat×List Nat→Prop):Prop :=
 match dOk X.nt i.dst with
 | false => False
 | true => match i.guard with
  | none => match tdo X T.raw T i.op with
   | some (ps,tv,T') => conj ps (k (putT T' i.dst tv) (fpT T.raw T i.op))
   | none => False
  | some (some g,want) => match joK want (T.ts g) with
   | some b => match tdoP X (fun x => rdG g want (T.raw x)) T i.op with
    | some (ps,tv) => conj ((rdGP g b want ((jcy i).map T.raw) ++ ps).map fun p => b = want→p) (k (putT T i.dst (.opt g b want tv)) (fpT (fun x => rdG g want (T.raw x)) T i.op))
    | none => match tdo X (fun x => rdG g want (T.raw x)) T i.op with
     | some (ps,tv,T') => (b = want→conj (rdGP g b want ((jcy i).map T.raw) ++ ps) (k (putT T' i.dst tv) (fpT (fun x => rdG g want (T.raw x)) T i.op)))∧(b = !want→k (putT T i.dst .no) ([],[]))
     | none => (b = want→False)∧(b = !want→k (putT T i.dst .no) ([],[]))
   | none => False
  | some (none,_) => False

def trun (X:Cx):List AIns→TSt→(TSt→Prop)→Prop
 | [],T,k => k T
 | i :: r,T,k => tins X i T fun T' _ => trun X r T' k
def jhW (X:Cx) (pairs:List (Nat×Nat)):List AIns→TSt→List (List Nat×List Nat)→(TSt→Prop)→Prop
 | [],T,F,k => match okF F pairs with
  | true => k T
  | false => False
 | i :: r,T,F,k => tins X i T fun T' fp => jhW X pairs r T' (F ++ [fp]) k

section
variable {E:Env} {P:Program} {X:Cx} {T:TSt} {st:St}

omit [Laid] in
theorem jvE {A:Nat→Ty} {look:Nat→TC} {raw raw2:Opd→TV} {op:AOp} (h:∀ x∈ja2 op,raw2 x = raw x):jaz A look raw2 op = jaz A look raw op := by
 cases op
 case pick c x y =>
  simp only [ja2,List.mem_cons,List.not_mem_nil,or_false,forall_eq_or_imp,forall_eq] at h
  cases c with
  | c => rfl
  | t g => simp only [jaz]; rw [h.1,h.2.1,h.2.2]
 case build z parts =>
  simp only [jaz]
  have:(parts.map fun p => (p.1,p.2.1,jaj (raw2 p.2.2))) = parts.map fun p => (p.1,p.2.1,jaj (raw p.2.2)) := by
   apply List.map_congr_left; intro p hp; rw [h p.2.2 (by simp only [ja2,List.mem_map]; exact ⟨p,hp,rfl⟩)]
  rw [this]
 case bsl own s k n z parts =>
  cases own with
  | true => rfl
  | false =>
   simp only [jaz]
   have:(parts.map fun p => (p.1,p.2.1,jaj (raw2 p.2.2))) = parts.map fun p => (p.1,p.2.1,jaj (raw p.2.2)) := by
    apply List.map_congr_left; intro p hp; rw [h p.2.2 (by simp only [ja2,List.mem_map]; exact ⟨p,hp,rfl⟩)]
   rw [this]
 case sl k x lo hi =>
  have e0:raw2 x = raw x := h x (by simp [ja2])
  have e1:jbb (fun y => jaj (raw2 y)) lo = jbb (fun y => jaj (raw y)) lo := by
   cases lo with
   | none => rfl
   | some y => simp only [jbb]; rw [h y (by simp [ja2])]
  have e2:jbb (fun y => jaj (raw2 y)) hi = jbb (fun y => jaj (raw y)) hi := by
   cases hi with
   | none => rfl
   | some y => simp only [jbb]; rw [h y (by simp [ja2])]
  simp only [jaz,e0,e1,e2]
 case sl3 k x lo hi mx =>
  have e0:raw2 x = raw x := h x (by simp [ja2])
  have e1:jbb (fun y => jaj (raw2 y)) lo = jbb (fun y => jaj (raw y)) lo := by
   cases lo with
   | none => rfl
   | some y => simp only [jbb]; rw [h y (by simp [ja2])]
  have e2:jbb (fun y => jaj (raw2 y)) hi = jbb (fun y => jaj (raw y)) hi := by
   cases hi with
   | none => rfl
   | some y => simp only [jbb]; rw [h y (by simp [ja2])]
  have e3:jbb (fun y => jaj (raw2 y)) (some mx) = jbb (fun y => jaj (raw y)) (some mx) := by
   simp only [jbb]; rw [h mx (by simp [ja2])]
  simp only [jaz,e0,e1,e2,e3]
 case sla k n x lo hi =>
  have e0:raw2 x = raw x := h x (by simp [ja2])
  have e1:jbb (fun y => jaj (raw2 y)) lo = jbb (fun y => jaj (raw y)) lo := by
   cases lo with
   | none => rfl
   | some y => simp only [jbb]; rw [h y (by simp [ja2])]
  have e2:jbb (fun y => jaj (raw2 y)) hi = jbb (fun y => jaj (raw y)) hi := by
   cases hi with
   | none => rfl
   | some y => simp only [jbb]; rw [h y (by simp [ja2])]
  simp only [jaz,e0,e1,e2]
 case clo f caps =>
  simp only [jaz]
  have:(caps.map fun c => jaj (raw2 c)) = caps.map fun c => jaj (raw c) := by
   apply List.map_congr_left; intro p hp; rw [h p hp]
  rw [this]
 case len b x =>
  have e0:raw2 x = raw x := h x (by simp [ja2])
  cases b <;> simp only [jaz,e0]
 all_goals
  simp only [ja2,List.mem_cons,List.not_mem_nil,or_false,forall_eq_or_imp,forall_eq] at h
  first
  | rfl
  | (simp only [jaz]; rw [h]; done)
  | (simp only [jaz]; rw [h.1,h.2]; done)
  | (simp only [jaz]; rw [h.1,h.2.1,h.2.2]; done)

omit [Laid] in
theorem jGQ {ns:Nat} {A:Nat→Ty} {raw raw2:Opd→TV} {op:AOp} (h:∀ x∈ja2 op,raw2 x = raw x):jbD ns A T raw2 op = jbD ns A T raw op := by
 cases op
 case bsl own s k n z parts =>
  cases own with
  | false => rfl
  | true =>
   simp only [jbD]
   have:(parts.map fun p => (p.1,p.2.1,jaj (raw2 p.2.2))) = parts.map fun p => (p.1,p.2.1,jaj (raw p.2.2)) := by
    apply List.map_congr_left; intro p hp; rw [h p.2.2 (by simp only [ja2,List.mem_map]; exact ⟨p,hp,rfl⟩)]
   rw [this]
 all_goals
  first
  | rfl
  | (simp only [ja2,List.mem_cons,List.not_mem_nil,or_false,forall_eq_or_imp,forall_eq] at h
     first
     | (simp only [jbD]; rw [h]; done)
     | (simp only [jbD]; rw [h.1,h.2]; done))

omit [Laid] in
theorem jGR {raw raw2:Opd→TV} {i:AIns} (h:∀ x∈jcy i,raw2 x = raw x):jcD raw2 i.op = jcD raw i.op := by
 unfold jcy at h
 cases hop:i.op with
 | op o => rfl
 | call s f args =>
  rw [hop] at h
  have:(args.map fun x => jaj (raw2 x)) = args.map fun x => jaj (raw x) := by
   apply List.map_congr_left; intro p hp; rw [h p hp]
  simp only [jcD,this]
 | callv s x args =>
  rw [hop] at h
  have:(args.map fun x => jaj (raw2 x)) = args.map fun x => jaj (raw x) := by
   apply List.map_congr_left; intro p hp; rw [h p (by simp [hp])]
  simp only [jcD,this,h x (by simp)]

omit [Laid] in
theorem jGS {raw raw2:Opd→TV} {i:AIns} (h:∀ x∈jcy i,raw2 x = raw x):tdo X raw2 T i.op = tdo X raw T i.op∧tdoP X raw2 T i.op = tdoP X raw T i.op∧fpT raw2 T i.op = fpT raw T i.op := by
 have ha := jGR h
 unfold jcy at h
 cases hop:i.op with
 | op o =>
  rw [hop] at h
  refine ⟨by simp only [tdo,jvE h,jGQ h],by simp only [tdoP,jvE h],?_⟩
  have:jcQ raw2 o = jcQ raw o := by
   cases o
   case bsl own s k n z parts => cases own <;> rfl
   case app s k b x y => simp only [jcQ]; rw [h x (by simp [ja2]),h y (by simp [ja2])]
   all_goals
    first
    | rfl
    | (simp only [jcQ]; rw [h _ (by simp [ja2])]; done)
  simp only [fpT,this]
 | call s f args => rw [hop] at ha; exact ⟨by simp only [tdo,ha],by simp only [tdoP,ha],by simp only [fpT,ha]⟩
 | callv s x args => rw [hop] at ha; exact ⟨by simp only [tdo,ha],by simp only [tdoP,ha],by simp only [fpT,ha]⟩

def jcR (P:Program) (m:Nat) (st:St) (op:AI) (v:V) (hp' : List Blk):Prop := match op with
 | .op o => jaf st.hp st.get o = some (v,hp')
 | .call s f args => CallR P m s st.hp f (args.map st.get) v hp'
 | .callv s x args => match st.get x with
  | .clo f caps => jan P f = true∧CallR P m s st.hp f (args.map st.get ++ caps) v hp'
  | .p (.fn f caps) => jan P f = true∧CallR P m s st.hp f (args.map st.get ++ caps.map .ipt) v hp'
  | _ => False

theorem jvF {m:Nat} {i:AIns} {v:V} {hp' : List Blk} {K:St→Prop} (h:jcR P m st i.op v hp') (hK:K (St.put ⟨st.ts,hp'⟩ i.dst v)):jbB P m st i K := by
 unfold jcR at h
 unfold jbB
 split at h
 ·rename_i o ho; rw [ho]; exact ⟨v,hp',h,hK⟩
 ·rename_i s f args ho; rw [ho]; exact ⟨v,hp',h,hK⟩
 ·rename_i s x args ho
  rw [ho]; dsimp only
  split at h
  ·rename_i f caps hx; rw [hx]; exact ⟨h.1,v,hp',h.2,hK⟩
  ·rename_i f caps hx; rw [hx]; exact ⟨h.1,v,hp',h.2,hK⟩
  ·exact h.elim
theorem jvG {m:Nat} {i:AIns} {v:V} {hp' : List Blk} {K:St→List Nat×List Nat→Prop} (h:jcR P m st i.op v hp') (hK:K (St.put ⟨st.ts,hp'⟩ i.dst v) (jbR st i.op)):ADo P m st i K := by
 unfold jcR at h
 unfold ADo
 unfold jbR at hK
 split at h
 ·rename_i o ho; rw [ho] at hK ⊢; exact ⟨v,hp',h,hK⟩
 ·rename_i s f args ho; rw [ho] at hK ⊢; exact ⟨v,hp',h,hK⟩
 ·rename_i s x args ho
  rw [ho] at hK ⊢; dsimp only at hK ⊢
  split at h
  ·rename_i f caps hx; rw [hx] at hK ⊢; exact ⟨h.1,v,hp',h.2,hK⟩
  ·rename_i f caps hx; rw [hx] at hK ⊢; exact ⟨h.1,v,hp',h.2,hK⟩
  ·exact h.elim

omit [Laid] in
theorem jvH {A:Nat→Ty} {raw:Opd→TV} {g:Opd→V} {op:AOp} {r:List Prop×TV} (h:jaz A T.c raw op = some r) (hraw:∀ x,TRel E (raw x) (g x)):ja0 g op = jcQ raw op := by
 have sl:∀ x,jaj (raw x) ≠ .und→okT (jaj (raw x)) = true→jaK (g x) = jco (jaj (raw x)) := fun x _ hk => jeQ (jci (hraw x)) hk
 cases op
 case ld1 x =>
  simp only [ja0,jcQ]
  refine jeQ (jci (hraw x)) ?_
  cases hx:jaj (raw x) <;> first | rfl | (simp only [jaz,hx,jcn] at h; cases h)
 case ldn n x =>
  simp only [ja0,jcQ]
  refine jeQ (jci (hraw x)) ?_
  cases hx:jaj (raw x) <;> first | rfl | (simp only [jaz,hx,jcn] at h; cases h)
 case sla k n x lo hi =>
  simp only [ja0,jcQ]
  refine jeQ (jci (hraw x)) ?_
  cases hx:jaj (raw x) <;> first | rfl | (simp only [jaz,hx] at h; cases h)
 case bsl own s k n z parts => cases own <;> rfl
 case st => simp [jaz] at h
 case app => simp [jaz] at h
 case cpy => simp [jaz] at h
 all_goals rfl

omit [Laid] in
theorem jGT {ns:Nat} {A:Nat→Ty} {raw:Opd→TV} {g:Opd→V} {op:AOp} {r:List Prop×TV×TSt} (h:jbD ns A T raw op = some r) (hraw:∀ x,TRel E (raw x) (g x)):ja0 g op = jcQ raw op := by
 cases op
 case st n x v =>
  simp only [ja0,jcQ]
  refine jeQ (jci (hraw x)) ?_
  simp only [jbD] at h
  split at h
  ·split at h
   ·cases hx:jaj (raw x) <;> first | rfl | (simp only [hx] at h; cases h)
   ·cases h
  ·cases h
 case app s k b x y =>
  simp only [ja0,jcQ]
  simp only [jbD] at h
  have hx:okT (jaj (raw x)) = true := by cases hx:jaj (raw x) <;> first | rfl | (simp only [hx] at h; cases h)
  have hy:okT (jaj (raw y)) = true := by
   split at h
   ·split at h
    ·split at h
     ·rename_i l hl; exact joE hl
     ·cases h
    ·cases h
   ·split at h
    ·split at h
     ·split at h
      ·rename_i l hl; exact joE hl
      ·cases h
     ·cases h
    ·cases h
   ·cases h
  rw [jeQ (jci (hraw x)) hx,jeQ (jci (hraw y)) hy]
 case bsl own s k n z parts => cases own <;> rfl
 case ld1 => simp [jbD] at h
 case ldn => simp [jbD] at h
 case sla => simp [jbD] at h
 case cpy => simp [jbD] at h
 all_goals rfl

omit [Laid] in
theorem joL {raw:Opd→TV} {g:Opd→V} (hraw:∀ x,TRel E (raw x) (g x)) (args:List Opd):LRel E (args.map fun x => jaj (raw x)) (args.map g) := LRel.map fun x _ => jci (hraw x)

theorem joM {raw:Opd→TV} (hraw:∀ x,TRel E (raw x) (st.get x)) {op:AI} {f:FuncId} {args:List TV} (h:jcD raw op = some (f,args)) :
  ∃ vs,LRel E args vs∧(∀ m v hp',jan P f = true→CallR P m (jcP op) st.hp f vs v hp'→jcR P m st op v hp')∧jbR st op = (vs.flatMap jal ++ [jcP op],wrC st.hp vs (jcP op)) := by
 cases op with
 | op o => cases h
 | call s f' as =>
  simp only [jcD,sJ,pJ] at h; obtain ⟨rfl,rfl⟩ := h
  exact ⟨_,joL hraw as,fun m v hp' _ hc => hc,rfl⟩
 | callv s x as =>
  have hx := jci (hraw x)
  simp only [jcD] at h
  split at h
  ·rename_i f' caps hxa
   rw [hxa] at hx
   obtain ⟨vs,he,hn,hr⟩ := hx.inv_clo
   simp only [sJ,pJ] at h; obtain ⟨rfl,rfl⟩ := h
   refine ⟨as.map st.get ++ vs,(joL hraw as).append ⟨hn,hr⟩,fun m v hp' h1 hc => ?_,?_⟩
   ·simp only [jcR,he]; exact ⟨h1,hc⟩
   ·simp only [jbR,he]; rfl
  ·rename_i f' caps hxa
   rw [hxa] at hx
   obtain ⟨p,he,hle⟩ := hx.inv_fn
   simp only [sJ,pJ] at h; obtain ⟨rfl,rfl⟩ := h
   cases hle with
   | fn _ cap _ _ hn hl hh =>
    refine ⟨as.map st.get ++ cap.map .ipt,(joL hraw as).append ⟨by simpa using hn.symm,fun i c v h1 h2 => ?_⟩,fun m v hp' h1 hc => ?_,?_⟩
    ·rw [List.getElem?_map] at h1 h2
     cases hc:caps[i]? with
     | none => simp [hc] at h1
     | some c' =>
      cases he' : cap[i]? with
      | none => simp [he'] at h2
      | some e =>
       simp only [hc,he',Option.map_some,sJ] at h1 h2; subst h1 h2
       have hc2:(caps.map fun c => c.1.enc c.2)[i]? = some (c'.1.enc c'.2) := by rw [List.getElem?_map,hc]; rfl
       have hlen := hl i e _ he' hc2
       refine .ipt _ _ (by rw [jdZ,← Ty.enc_len c'.1 c'.2]; exact hlen) fun j d p hd hp => ?_
       have hj:j < (c'.1.enc c'.2).length := by
        rw [Ty.enc_len,← jdZ c'.1 c'.2]; exact (List.getElem?_eq_some_iff.1 hd).1
       obtain ⟨q,hq⟩ : ∃ q,(c'.1.enc c'.2)[j]? = some q := ⟨_,List.getElem?_eq_getElem hj⟩
       have := congrArg (·[j]?) (jhK c'.1 c'.2)
       simp only [List.getElem?_map,hd,hq,Option.map_some,sJ] at this
       exact ⟨q,this,hh i e _ j p q he' hc2 hp hq⟩
    ·simp only [jcR,he]; exact ⟨h1,hc⟩
    ·simp only [jbR,he]; rfl
  ·cases h

theorem jvI (hC:jag P X.C) (h:Conc X.nt X.ns E T st) {f:FuncId} {args:List TV} {vs:List V} (hr:LRel E args vs) {ps:List Prop} {tv:TV} {ss:List Nat} (hc:jgn X T f args = some (ps,tv,ss)) (hps:∀ p∈ps,p) (s:Nat) :
  jan P f = true∧vs.flatMap jal = ss∧wrC st.hp vs s = ss.filter (jcC T) ++ [s]∧ss = args.flatMap jaN∧∃ v,CallR P X.m s st.hp f vs v (jaL st.hp ss)∧TRel E tv v := by
 unfold jgn at hc
 split at hc
 ·cases hc
 rename_i hid
 split at hc
 ·rename_i c hfc
  split at hc
  ·rename_i x hx
   split at hc
   ·rename_i hall
    simp only [sJ,pJ] at hc; obtain ⟨rfl,rfl,rfl⟩ := hc
    obtain ⟨h1,h2⟩ := (jd5 hC hfc).1 hid
    obtain ⟨as,g1,g2,g3⟩ := jfB h hx hr
    rw [List.all_eq_true] at hall
    have hm:∀ t∈args.flatMap jaN,X.m≤t∧T.c t ≠ .dead := fun t ht => by
     have := hall t ht
     simp only [Bool.and_eq_true] at this
     exact ⟨Nat.le_of_ble_eq_true this.1,fun e => by rw [e] at this; exact absurd this.2 (by simp [jdE])⟩
    refine ⟨h1,g3,?_,rfl,valR c.rs (c.fn x),?_,joG _ _⟩
    ·simp only [wrC,g3]
     congr 1
     apply List.filter_congr
     intro t ht
     exact jfC h (hm t ht).2
    ·have := CallR.pure (P := P) (m := X.m) (s := s) (hp := st.hp) (f := f) (args := vs) as (valR c.rs (c.fn x)) g1 (by
      rw [g3,List.all_eq_true]; intro t ht; simpa using (hm t ht).1) (jGO g2 (h2 x hps))
     rw [g3] at this; exact this
   ·cases hc
  ·cases hc
 ·cases hc

theorem jvJ {f:FuncId} {as:List V} {ps qs ps' : List Pv} {r:V} (h:LeL ps qs) (hr:RetM P f as qs r ps'):RetM P f as ps r ps' := fun w S vals c sz arr ty h1 h2 h3 h4 => by
 refine hr w S vals c sz arr ty h1 h2 (by rw [h.1]; exact h3) (fun i x' hi => ?_)
 obtain ⟨a,ha⟩ := jbx h.1 hi
 exact (h.2 i a x' ha hi).rel (h4 i a ha)
theorem jGU {f:FuncId} {p:Pv} {v' : V} {as:List V} {ps ps' : List Pv} {r:V} (h:VLe (.p p) v') (hr:RetM P f (v' :: as) ps r ps'):RetM P f (.p p :: as) ps r ps' := fun w S vals c sz arr ty h1 h2 h3 h4 h5 h6 h7 => by
 refine hr w S vals c sz arr ty h1 h2 h3 h4 h5 (by simpa using h6) (fun i v hi => ?_)
 match i with
 | 0 =>
  simp only [List.getElem?_cons_zero,sJ] at hi; subst hi
  have := h7 0 (.p p) rfl
  have:VRel Plc0 S w (.p p) (vals.getD 0 undef) := by cases this with | p _ _ h => exact .p _ _ h
  exact (h _ _ _ this).mono (fun _ _ _ e => by cases e) (fun _ e => e) (fun _ _ => rfl)
 | i + 1 => exact h7 (i + 1) v (by simpa using hi)
theorem jGV (hC:jag P X.C) (h:Conc X.nt X.ns E T st) {f:FuncId} {args:List TV} {vs:List V} (hr:LRel E args vs) {ps:List Prop} {tv:TV} {T' : TSt} (hc:joI X T f args = some (ps,tv,T')) (hps:∀ p∈ps,p) (s:Nat) :
  jan P f = true∧vs.flatMap jal = args.flatMap jaN∧wrC st.hp vs s = (args.flatMap jaN).filter (jcC T) ++ [s]∧∃ v hp',CallR P X.m s st.hp f vs v hp'∧Conc X.nt X.ns E T' ⟨st.ts,hp'⟩∧Hist E T E T'∧TRel E tv v := by
 unfold joI at hc
 split at hc
 ·rename_i s0
  split at hc
  ·rename_i t r t' pre fn hfc
   split at hc
   ·rename_i cs hl
    split at hc
    ·rename_i x hn hx
     simp only [sJ,pJ] at hc; obtain ⟨rfl,rfl,rfl⟩ := hc
     simp only [Bool.and_eq_true] at hn
     have hn2 := Nat.eq_of_beq_eq_true hn.2
     have hn1:0 < t.n := by
      have:1≤t.n := by simpa [Nat.blt] using hn.1
      exact this
     obtain ⟨h1,rfl,h2⟩ := (jd5 hC hfc).2.1 rfl
     obtain ⟨b,q1,q2,q3,q4,q5⟩ := jeO h hl
     obtain ⟨us,g1,g2,g3⟩ := jdm hx q5
     -- the argument
     obtain ⟨v,rfl,hv⟩ : ∃ v,vs = [v]∧TRel E (.ptr s0 0 []) v := by
      match vs,hr.1 with
      | [v],_ => exact ⟨v,rfl,hr.2 0 _ v rfl rfl⟩
     obtain ⟨_,rfl⟩ := hv.inv_ptr
     have hoff:0 + jaP [] = 0 := rfl
     have hlive:b.st = .live := by rw [q4]; rfl
     refine ⟨h1,rfl,?_,valR [.one r] (fn x).1,st.hp.set s0 ⟨b.ver,.live,(t'.enc (fn x).2).map .p⟩,?_,?_⟩
     ·simp only [wrC]
      congr 1
      show (List.flatMap jal [V.ptr s0 (E.vr s0) (0 + jaP [])]).filter _ = _
      apply List.filter_congr
      intro u hu
      have:u = s0 := by simpa [jal,jaK] using hu
      subst this
      exact jfC h (by rw [hl]; exact fun e => by cases e)
     ·have := CallR.io (P := P) (m := X.m) (s := s) (hp := st.hp) (f := f) (args := [V.ptr s0 (E.vr s0) (0 + jaP [])]) [.ptr 0 0 0] (valR [.one r] (fn x).1) s0 b us (t'.enc (fn x).2)
       (by simp [jal,jaK]) q1 hlive (by rw [q5.1,hn2]; exact hn1) (by rw [g1]; exact jcM us) (by simp [jak,ioV,q2,hoff]) (by simp [ioS,q2]) (jvJ g2 (h2 x hps))
      simpa [ioS,q2,jaL] using this
     ·obtain ⟨c1,c2⟩ := jd3 (c := .cells true (jbo t' (fn x).2)) (b' := ⟨b.ver,.live,(t'.enc (fn x).2).map .p⟩) h q1 ⟨q2,rfl,rfl,jhU⟩
      exact ⟨c1,c2,joG _ _⟩
    ·cases hc
   ·cases hc
  ·cases hc
 ·rename_i a s0
  split at hc
  ·rename_i u t r t' pre fn hda hfc
   split at hc
   ·rename_i z cs hz hl
    split at hc
    ·rename_i x hn hx
     simp only [sJ,pJ] at hc; obtain ⟨rfl,rfl,rfl⟩ := hc
     simp only [Bool.and_eq_true] at hn
     have hn2 := Nat.eq_of_beq_eq_true hn.2
     have hn1:0 < t.n := by
      have:1≤t.n := by simpa [Nat.blt] using hn.1
      exact this
     obtain ⟨h1,rfl,h2⟩ := (jd5 hC hfc).2.1 rfl
     obtain ⟨b,q1,q2,q3,q4,q5⟩ := jeO h hl
     obtain ⟨us,g1,g2,g3⟩ := jdm hx q5
     -- the arguments
     obtain ⟨va,v,rfl,hva,hv⟩ : ∃ va v,vs = [va,v]∧TRel E a va∧TRel E (.ptr s0 0 []) v := by
      match vs,hr.1 with
      | [va,v],_ => exact ⟨va,v,rfl,hr.2 0 _ va rfl rfl,hr.2 1 _ v rfl rfl⟩
     obtain ⟨_,rfl⟩ := hv.inv_ptr
     obtain ⟨p,rfl⟩ : ∃ p,va = .p p := by
      cases a <;> simp only [joH,Bool.false_eq_true] at hda
      all_goals cases hva with | pure _ p _ => exact ⟨p,rfl⟩
     have hsa:jaN a = [] := by
      cases a <;> simp only [joH,Bool.false_eq_true] at hda
      all_goals rfl
     have hp1 := jj3 h hz hva
     obtain ⟨vp,k1,k2,_⟩ := hp1
     have k1:V.p p = vp := by simpa [pur] using k1
     subst k1
     have hoff:0 + jaP [] = 0 := rfl
     have hlive:b.st = .live := by rw [q4]; rfl
     refine ⟨h1,by rw [List.flatMap_cons,List.flatMap_cons (f := jaN),hsa]; rfl,?_,valR [.one r] (fn (z,x)).1,st.hp.set s0 ⟨b.ver,.live,(t'.enc (fn (z,x)).2).map .p⟩,?_,?_⟩
     ·simp only [wrC]
      congr 1
      show (List.flatMap jal [V.p p,V.ptr s0 (E.vr s0) (0 + jaP [])]).filter _ = _
      have e1:List.flatMap jal [V.p p,V.ptr s0 (E.vr s0) (0 + jaP [])] = [s0] := rfl
      have e2:List.flatMap jaN [a,.ptr s0 0 []] = [s0] := by rw [List.flatMap_cons,hsa]; rfl
      rw [e1,e2]
      apply List.filter_congr
      intro u hu
      have:u = s0 := by simpa using hu
      subst this
      exact jfC h (by rw [hl]; exact fun e => by cases e)
     ·have := CallR.io (P := P) (m := X.m) (s := s) (hp := st.hp) (f := f) (args := [V.p p,V.ptr s0 (E.vr s0) (0 + jaP [])]) [.p p,.ptr 0 0 0] (valR [.one r] (fn (z,x)).1) s0 b us (t'.enc (fn (z,x)).2)
       (by simp [jal,jaK]) q1 hlive (by rw [q5.1,hn2]; exact hn1) (by rw [g1]; exact jcM us) (by simp [jak,ioV,q2,hoff,pur]) (by simp [ioS,q2,jal,jaK]) (jGU k2 (jvJ g2 (h2 z x hps)))
      simpa [ioS,q2,jaL,jal,jaK] using this
     ·obtain ⟨c1,c2⟩ := jd3 (c := .cells true (jbo t' (fn (z,x)).2)) (b' := ⟨b.ver,.live,(t'.enc (fn (z,x)).2).map .p⟩) h q1 ⟨q2,rfl,rfl,jhU⟩
      exact ⟨c1,c2,joG _ _⟩
    ·cases hc
   ·cases hc
  ·cases hc
 ·cases hc

theorem jGW (hC:jag P X.C) (h:Conc X.nt X.ns E T st) {f:FuncId} {args:List TV} {vs:List V} (hr:LRel E args vs) {s:Nat} {ps:List Prop} {tv:TV} {T' : TSt} (hc:joJ X T f args s = some (ps,tv,T')) (hps:∀ p∈ps,p) :
  jan P f = true∧vs.flatMap jal = args.flatMap jaN∧wrC st.hp vs s = (args.flatMap jaN).filter (jcC T) ++ [s]∧∃ v hp' E',CallR P X.m s st.hp f vs v hp'∧Conc X.nt X.ns E' T' ⟨st.ts,hp'⟩∧Hist E T E' T'∧TRel E' tv v := by
 unfold joJ at hc
 split at hc
 ·rename_i pss e pre fn hfc
  split at hc
  ·rename_i x hx hall
   simp only [sJ,pJ] at hc; obtain ⟨rfl,rfl,rfl⟩ := hc
   simp only [Bool.and_eq_true] at hall
   obtain ⟨hall,hs⟩ := hall
   have hs:s < X.ns := by
    have:s + 1≤X.ns := by simpa [Nat.blt] using hs
    exact this
   obtain ⟨h1,h2⟩ := (jd5 hC hfc).2.2.2.1 rfl
   obtain ⟨as,g1,g2,g3⟩ := jfB h hx hr
   rw [List.all_eq_true] at hall
   have hm:∀ t∈args.flatMap jaN,X.m≤t∧T.c t ≠ .dead := fun t ht => by
    have := hall t ht
    simp only [Bool.and_eq_true] at this
    exact ⟨Nat.le_of_ble_eq_true this.1,fun e => by rw [e] at this; exact absurd this.2 (by simp [jdE])⟩
   obtain ⟨c1,c2⟩ := jd6 (ss := args.flatMap jaN) h
   obtain ⟨b,hb⟩ : ∃ b,(jaL st.hp (args.flatMap jaN))[s]? = some b := ⟨_,List.getElem?_eq_getElem (by rw [jbW,h.lh]; exact hs)⟩
   obtain ⟨d1,d2⟩ := jda (ver := b.ver + 1) (len := (fn x).length) (cs := ((List.map e.enc (fn x)).flatten).map .p) c1 hb (c := .dyn true e (fn x)) ⟨Env.at_vr.symm,rfl,rfl,by rw [Env.at_ln],_,rfl,⟨rfl,fun i a b h1 h2 => by rw [h1] at h2; injection h2 with h2; subst h2; exact .refl _⟩⟩
   refine ⟨h1,g3,?_,.ref s (b.ver + 1) 0 (fn x).length e.n,_,_,?_,d1,c2.trans d2,?_⟩
   ·simp only [wrC,g3]
    congr 1
    apply List.filter_congr
    intro t ht
    exact jfC h (hm t ht).2
   ·have := CallR.own (P := P) (m := X.m) (s := s) (hp := st.hp) (f := f) (args := vs) as (fun t ver => .ref t ver 0 (fn x).length e.n) (((List.map e.enc (fn x)).flatten).map .p) b g1 (by
     rw [g3,List.all_eq_true]; intro t ht; simpa using (hm t ht).1) (joD g2 (h2 x hps)) (by rw [g3]; exact hb)
    rw [g3] at this; exact this
   ·have := TRel.own (E := E.at s (b.ver + 1) (fn x).length) s e
    rw [Env.at_vr,Env.at_ln] at this; exact this
  ·cases hc
 ·rename_i pss e pre fn hfc
  split at hc
  ·rename_i x hx hall
   simp only [sJ,pJ] at hc; obtain ⟨rfl,rfl,rfl⟩ := hc
   simp only [Bool.and_eq_true] at hall
   obtain ⟨hall,hs⟩ := hall
   have hs:s < X.ns := by
    have:s + 1≤X.ns := by simpa [Nat.blt] using hs
    exact this
   obtain ⟨h1,h2⟩ := (jd5 hC hfc).2.2.2.1 rfl
   obtain ⟨as,g1,g2,g3⟩ := jfB h hx hr
   rw [List.all_eq_true] at hall
   have hm:∀ t∈args.flatMap jaN,X.m≤t∧T.c t ≠ .dead := fun t ht => by
    have := hall t ht
    simp only [Bool.and_eq_true] at this
    exact ⟨Nat.le_of_ble_eq_true this.1,fun e => by rw [e] at this; exact absurd this.2 (by simp [jdE])⟩
   obtain ⟨c1,c2⟩ := jd6 (ss := args.flatMap jaN) h
   obtain ⟨b,hb⟩ : ∃ b,(jaL st.hp (args.flatMap jaN))[s]? = some b := ⟨_,List.getElem?_eq_getElem (by rw [jbW,h.lh]; exact hs)⟩
   obtain ⟨d1,d2⟩ := jda (ver := b.ver + 1) (len := List.length (α := e.den) (fn x)) (cs := ((List.map e.enc (fn x)).flatten).map .p) c1 hb (c := .dyn true e (fn x)) ⟨Env.at_vr.symm,rfl,rfl,by rw [Env.at_ln],_,rfl,⟨rfl,fun i a b h1 h2 => by rw [h1] at h2; injection h2 with h2; subst h2; exact .refl _⟩⟩
   refine ⟨h1,g3,?_,.agg [.ref s (b.ver + 1) 0 (List.length (α := e.den) (fn x)) e.n],_,_,?_,d1,c2.trans d2,?_⟩
   ·simp only [wrC,g3]
    congr 1
    apply List.filter_congr
    intro t ht
    exact jfC h (hm t ht).2
   ·have := CallR.own (P := P) (m := X.m) (s := s) (hp := st.hp) (f := f) (args := vs) as (fun t ver => .agg [.ref t ver 0 (List.length (α := e.den) (fn x)) e.n]) (((List.map e.enc (fn x)).flatten).map .p) b g1 (by
     rw [g3,List.all_eq_true]; intro t ht; simpa using (hm t ht).1) (joD g2 (h2 x hps)) (by rw [g3]; exact hb)
    rw [g3] at this; exact this
   ·have := TRel.own (E := E.at s (b.ver + 1) (List.length (α := e.den) (fn x))) s e
    rw [Env.at_vr,Env.at_ln] at this
    refine .agg _ _ rfl fun i c v h1 h2 => ?_
    match i,h1,h2 with
    | 0,h1,h2 =>
     simp only [List.getElem?_cons_zero,sJ] at h1 h2
     subst h1 h2; exact this
  ·cases hc
 ·rename_i pss kk e pre fn hfc
  split at hc
  ·rename_i x hx hall
   simp only [sJ,pJ] at hc; obtain ⟨rfl,rfl,rfl⟩ := hc
   simp only [Bool.and_eq_true] at hall
   obtain ⟨hall,hs⟩ := hall
   have hs:s < X.ns := by
    have:s + 1≤X.ns := by simpa [Nat.blt] using hs
    exact this
   obtain ⟨h1,h2⟩ := (jd5 hC hfc).2.2.2.1 rfl
   obtain ⟨as,g1,g2,g3⟩ := jfB h hx hr
   rw [List.all_eq_true] at hall
   have hm:∀ t∈args.flatMap jaN,X.m≤t∧T.c t ≠ .dead := fun t ht => by
    have := hall t ht
    simp only [Bool.and_eq_true] at this
    exact ⟨Nat.le_of_ble_eq_true this.1,fun e => by rw [e] at this; exact absurd this.2 (by simp [jdE])⟩
   obtain ⟨c1,c2⟩ := jd6 (ss := args.flatMap jaN) h
   obtain ⟨b,hb⟩ : ∃ b,(jaL st.hp (args.flatMap jaN))[s]? = some b := ⟨_,List.getElem?_eq_getElem (by rw [jbW,h.lh]; exact hs)⟩
   obtain ⟨d1,d2⟩ := jda (ver := b.ver + 1) (len := List.length (α := e.den) (sndL (fn x))) (cs := ((List.map e.enc (sndL (fn x))).flatten).map .p) c1 hb (c := .dyn true e (sndL (fn x))) ⟨Env.at_vr.symm,rfl,rfl,by rw [Env.at_ln],_,rfl,⟨rfl,fun i a b h1 h2 => by rw [h1] at h2; injection h2 with h2; subst h2; exact .refl _⟩⟩
   refine ⟨h1,g3,?_,.agg [.p (.int kk (fstI (fn x))),.ref s (b.ver + 1) 0 (List.length (α := e.den) (sndL (fn x))) e.n],_,_,?_,d1,c2.trans d2,?_⟩
   ·simp only [wrC,g3]
    congr 1
    apply List.filter_congr
    intro t ht
    exact jfC h (hm t ht).2
   ·have := CallR.own (P := P) (m := X.m) (s := s) (hp := st.hp) (f := f) (args := vs) as (fun t ver => .agg [.p (.int kk (fstI (fn x))),.ref t ver 0 (List.length (α := e.den) (sndL (fn x))) e.n]) (((List.map e.enc (sndL (fn x))).flatten).map .p) b g1 (by
     rw [g3,List.all_eq_true]; intro t ht; simpa using (hm t ht).1) (joD g2 (h2 x hps)) (by rw [g3]; exact hb)
    rw [g3] at this; exact this
   ·have := TRel.own (E := E.at s (b.ver + 1) (List.length (α := e.den) (sndL (fn x)))) s e
    rw [Env.at_vr,Env.at_ln] at this
    refine .agg _ _ rfl fun i c v h1 h2 => ?_
    match i,h1,h2 with
    | 0,h1,h2 =>
     simp only [List.getElem?_cons_zero,sJ] at h1 h2
     subst h1 h2; exact .int
    | 1,h1,h2 =>
     simp only [List.getElem?_cons_succ,List.getElem?_cons_zero,sJ] at h1 h2
     subst h1 h2; exact this
  ·cases hc
 ·cases hc

omit [Laid] in
theorem jvK {look:Nat→TC}:∀ {ps:List PSh} {cs:List TV} {x:(tyPs ps).den},jbI look ps cs = some x→cs.length = ps.length∧∀ (i:Nat) (p:PSh) (c:TV),ps[i]? = some p→cs[i]? = some c→∃ y,jdb look p c = some y∧(jax ps x)[i]? = some (valP p y)∧(tvPs ps x)[i]? = some (tvP p y)
 | [],[],x,_ => ⟨rfl,by simp⟩
 | [p],[c],x,h => ⟨rfl,fun i p' c' h1 h2 => by
   match i with
   | 0 =>
    simp only [List.getElem?_cons_zero,sJ] at h1 h2; subst h1 h2
    exact ⟨x,h,rfl,rfl⟩
   | i + 1 => simp at h1⟩
 | p :: q :: r,c :: cs,x,h => by
  simp only [jbI] at h
  split at h
  ·rename_i y z hy hz
   simp only [sJ] at h; subst h
   obtain ⟨h1,h2⟩ := jvK hz
   refine ⟨by simp [h1],fun i p' c' k1 k2 => ?_⟩
   match i with
   | 0 =>
    simp only [List.getElem?_cons_zero,sJ] at k1 k2; subst k1 k2
    exact ⟨y,hy,rfl,rfl⟩
   | i + 1 =>
    obtain ⟨y',g1,g2,g3⟩ := h2 i p' c' (by simpa using k1) (by simpa using k2)
    exact ⟨y',g1,by simpa [jax] using g2,by simpa [tvPs] using g3⟩
  ·cases h
 | [],_ :: _,_,h => by simp [jbI] at h
 | [_],[],_,h => by simp [jbI] at h
 | [_],_ :: _ :: _,_,h => by simp [jbI] at h
 | _ :: _ :: _,[],_,h => by simp [jbI] at h
omit [Laid] in
theorem jj8:∀ (ps:List PSh) (x:(tyPs ps).den),(jax ps x).length = ps.length∧(tvPs ps x).length = ps.length∧∀ (i:Nat) (p:PSh),ps[i]? = some p→∃ y,(jax ps x)[i]? = some (valP p y)∧(tvPs ps x)[i]? = some (tvP p y)
 | [],x => ⟨rfl,rfl,by simp⟩
 | [p],x => ⟨rfl,rfl,fun i p' h1 => by
   match i with
   | 0 => simp only [List.getElem?_cons_zero,sJ] at h1; subst h1; exact ⟨x,rfl,rfl⟩
   | i + 1 => simp at h1⟩
 | p :: q :: r,x => by
  obtain ⟨h1,h2,h3⟩ := jj8 (q :: r) x.2
  refine ⟨by simp [jax,h1],by simp [tvPs,h2],fun i p' k1 => ?_⟩
  match i with
  | 0 => simp only [List.getElem?_cons_zero,sJ] at k1; subst k1; exact ⟨x.1,rfl,rfl⟩
  | i + 1 =>
   obtain ⟨y,g1,g2⟩ := h3 i p' (by simpa using k1)
   exact ⟨y,by simpa [jax] using g1,by simpa [tvPs] using g2⟩

omit [Laid] in
theorem jvL {look:Nat→TC}:∀ {cs:List TV} {ss:List Nat} {ps:List Prop},jgo look cs = some (ss,ps)→ss.length = cs.length∧∀ (j:Nat) (c:TV),cs[j]? = some c→∃ s t t' l,c = .own s t∧ss[j]? = some s∧look s = .dyn true t' l∧t'.n = t.n∧(0 < l.length)∈ps
 | [],ss,ps,h => by simp only [jgo,sJ,pJ] at h; obtain ⟨rfl,rfl⟩ := h; exact ⟨rfl,by simp⟩
 | c :: cs,ss,ps,h => by
  cases c with
  | own s t =>
   simp only [jgo] at h
   split at h
   ·rename_i t' l ss' ps' hl ho
    split at h
    ·rename_i hn
     simp only [sJ,pJ] at h; obtain ⟨rfl,rfl⟩ := h
     obtain ⟨h1,h2⟩ := jvL ho
     refine ⟨by simp [h1],fun j c hc => ?_⟩
     match j with
     | 0 =>
      simp only [List.getElem?_cons_zero,sJ] at hc; subst hc
      exact ⟨s,t,t',l,rfl,rfl,hl,Nat.eq_of_beq_eq_true hn,by simp⟩
     | j + 1 =>
      obtain ⟨s',t1,t2,l',g1,g2,g3,g4,g5⟩ := h2 j c (by simpa using hc)
      exact ⟨s',t1,t2,l',g1,by simpa using g2,g3,g4,by simp [g5]⟩
    ·cases h
   ·cases h
  | _ => simp [jgo] at h

omit [Laid] in
theorem jvM:∀ {l:List Nat},jj5 l = true→l.Nodup
 | [],_ => List.nodup_nil
 | s :: r,h => by
  simp only [jj5,Bool.and_eq_true,Bool.not_eq_true',List.any_eq_false] at h
  refine List.nodup_cons.2 ⟨fun hm => ?_,jvM h.2⟩
  exact h.1 s hm (by simp)

omit [Laid] in
theorem jGX {hp:List Blk} {v a:V} (hp' : pur hp v = some a) {Φ:Plc} {S:Nat→Prop} {w:World} {x:Value} (h:VRel Φ S w a x):VRel Plc0 S w a x := by
 have cell:∀ (y:Pv) (x:Value),VRel Φ S w (.p y) x→VRel Plc0 S w (.p y) x := fun y x h => by cases h with | p _ _ h => exact .p _ _ h
 cases v with
 | p y => simp only [pur,sJ] at hp'; subst hp'; exact cell _ _ h
 | agg cs =>
  simp only [pur,Option.map_eq_some_iff] at hp'
  obtain ⟨l,_,rfl⟩ := hp'
  obtain ⟨arr,rfl,hn,hc⟩ := inv_agg h
  refine .agg _ _ hn fun i c hi => ?_
  have hh := hc i c hi
  rw [List.getElem?_map] at hi
  cases hq:l[i]? with
  | none => simp [hq] at hi
  | some q => simp only [hq,Option.map_some,sJ] at hi; subst hi; exact cell _ _ hh
 | ref t ver o n k =>
  simp only [pur,Option.map_eq_some_iff] at hp'
  obtain ⟨l,_,rfl⟩ := hp'
  exact cell _ _ h
 | ptr t ver o =>
  simp only [pur,Option.map_eq_some_iff] at hp'
  obtain ⟨l,_,rfl⟩ := hp'
  obtain ⟨b,o',cell,rfl,h1,h2,h3⟩ := inv_ipt h
  exact .ipt _ b o' cell h1 h2 h3
 | ipt cs =>
  simp only [pur,sJ] at hp'; subst hp'
  obtain ⟨b,o',cell,rfl,h1,h2,h3⟩ := inv_ipt h
  exact .ipt _ b o' cell h1 h2 h3
 | clo f caps =>
  simp only [pur,Option.map_eq_some_iff] at hp'
  obtain ⟨l,_,rfl⟩ := hp'
  exact cell _ _ h
 | und => simp only [pur,sJ] at hp'; subst hp'; exact .und _
 | tup | opt | no | yld | ub => simp [pur] at hp'

omit [Laid] in
theorem LeLL.flat:∀ {es es' : List (List Pv)},LeLL es es'→LeL es.flatten es'.flatten
 | [],es',h => by
  have:es' = [] := List.length_eq_zero_iff.1 (by simpa using h.1)
  subst this; exact .nil
 | e :: es,[],h => by have := h.1; simp at this
 | e :: es,e' :: es',h => by
  have h1 := h.2 0 e e' rfl rfl
  have h2:LeLL es es' := ⟨by simpa using h.1,fun i a b ha hb => h.2 (i + 1) a b (by simpa using ha) (by simpa using hb)⟩
  simpa using h1.append h2.flat

theorem jGY {f:FuncId} {as bs:List V} {pss qss pss' : List (List Pv)} {r:V} (hn:bs.length = as.length) (hle:∀ (i:Nat) (a b:V),as[i]? = some a→bs[i]? = some b→a = b ∨ ((∃ hp v,pur hp v = some a)∧VLe a b)) (hq:qss.length = pss.length) (hql:∀ (i:Nat) (p q:List Pv),pss[i]? = some p→qss[i]? = some q→LeL p q)
  (hr:RetN P f bs qss r pss'):RetN P f as pss r pss' := fun w S vals bl hd hB hv1 hv2 hS hG => by
 refine hr w S vals bl hd ⟨by rw [hq]; exact hB.1,fun i c sz ps e1 e2 => ?_⟩ (by rw [hn]; exact hv1) (fun i b hb => ?_) hS hG
 ·obtain ⟨p,hp⟩ := jbx hq e2
  obtain ⟨k1,arr,ty,k2,k3,k4,k5⟩ := hB.2 i c sz p e1 hp
  have hl := hql i p ps hp e2
  refine ⟨k1,arr,ty,k2,k3,by rw [hl.1]; exact k4,fun j y hy => ?_⟩
  obtain ⟨z,hz⟩ := jbx hl.1 hy
  exact (hl.2 j z y hz hy).rel (k5 j z hz)
 ·obtain ⟨a,ha⟩ := jbx hn hb
  rcases hle i a b ha hb with rfl | ⟨⟨hp,v,hpv⟩,hl⟩
  ·exact hv2 i a ha
  ·exact (hl _ _ _ (jGX hpv (hv2 i a ha))).mono (fun _ _ _ e => by cases e) (fun _ e => e) (fun _ _ => rfl)

omit [Laid] in
theorem jvN:∀ {ss:List Nat} {ts:List TV} {us:List (Nat×Blk)} {pss:List (List Pv)} {T:TSt} {st:St},Conc X.nt X.ns E T st→us.length = ss.length→ts.length = ss.length→pss.length = ss.length →
  (∀ (j:Nat) (s:Nat),ss[j]? = some s→∃ b e l,us[j]? = some (s,b)∧st.hp[s]? ≠ none∧b.ver = E.vr s∧ts[j]? = some (.sl e l)∧pss[j]? = some ((List.map e.enc l).flatten)∧E.ln s = l.length)→Conc X.nt X.ns E (jj4 T ss ts) ⟨st.ts,jb4 st.hp us pss⟩∧Hist E T E (jj4 T ss ts)
 | [],ts,us,pss,T,st,h,h1,h2,h3,_ => by
  have:us = [] := List.length_eq_zero_iff.1 h1
  subst this
  cases ts <;> exact ⟨h,.refl _ _⟩
 | s :: ss,ts,us,pss,T,st,h,h1,h2,h3,hj => by
  obtain ⟨b,e,l,k1,k2,k3,k4,k5,k6⟩ := hj 0 s rfl
  match us,ts,pss,k1,k4,k5 with
  | u :: us,t :: ts,p :: pss,k1,k4,k5 =>
   simp only [List.getElem?_cons_zero,sJ] at k1 k4 k5
   subst k1 k4 k5
   cases hb0:st.hp[s]? with
   | none => exact absurd hb0 k2
   | some b0 =>
    obtain ⟨c1,c2⟩ := jd3 (c := .dyn true e l) (b' := ⟨b.ver,.live,((List.map e.enc l).flatten).map .p⟩) h hb0 ⟨k3,rfl,rfl,k6,_,rfl,⟨rfl,fun i a b h1 h2 => by rw [h1] at h2; injection h2 with h2; subst h2; exact .refl _⟩⟩
    obtain ⟨d1,d2⟩ := jvN (ss := ss) (ts := ts) (us := us) (pss := pss) c1 (by simpa using h1) (by simpa using h2) (by simpa using h3) (fun j s' hs' => by
     obtain ⟨b',e',l',g1,g2,g3,g4,g5,g6⟩ := hj (j + 1) s' (by simpa using hs')
     refine ⟨b',e',l',by simpa using g1,?_,g3,by simpa using g4,by simpa using g5,g6⟩
     dsimp only
     rw [List.getElem?_set]
     split
     ·split
      ·simp
      ·rename_i hlt; exact absurd (List.getElem?_eq_some_iff.1 hb0).1 hlt
     ·exact g2)
    exact ⟨d1,c2.trans d2⟩

theorem jvO (hC:jag P X.C) (h:Conc X.nt X.ns E T st) {f:FuncId} {args:List TV} {vs:List V} (hr:LRel E args vs) {m:Nat} {ps:List Prop} {tv:TV} {T' : TSt} (hc:jj6 X T f args m = some (ps,tv,T')) (hps:∀ p∈ps,p) (s:Nat) :
  jan P f = true∧vs.flatMap jal = args.flatMap jaN∧wrC st.hp vs s = (args.flatMap jaN).filter (jcC T) ++ [s]∧∃ v hp',CallR P X.m s st.hp f vs v hp'∧Conc X.nt X.ns E T' ⟨st.ts,hp'⟩∧Hist E T E T'∧TRel E tv v := by
 unfold jj6 at hc
 split at hc
 rotate_left
 ·cases hc
 rename_i c hfc
 split at hc
 rotate_left
 ·cases hc
 rename_i x ss ps0 hx hown
 split at hc
 rotate_left
 ·cases hc
 rename_i hall
 simp only [sJ,pJ] at hc; obtain ⟨rfl,rfl,rfl⟩ := hc
 simp only [Bool.and_eq_true] at hall
 obtain ⟨⟨⟨hnd,hall⟩,hlen⟩,hm0⟩ := hall
 have hnd := jvM hnd
 have hlen := Nat.eq_of_beq_eq_true hlen
 obtain ⟨h1,hm1,hm2,hshape,hpsEq,hcon⟩ := (jd5 hC hfc).2.2.2.2 m rfl
 obtain ⟨hret,hlens⟩ := hcon x (fun p hp => hps p (by simp [hp]))
 rw [List.all_eq_true] at hall hshape
 obtain ⟨as,g1,g2,g3⟩ := jfB h hx hr
 obtain ⟨ag1,ag2⟩ := jbV vs as g1
 obtain ⟨hx1,hx2⟩ := jvK hx
 obtain ⟨o1,o2⟩ := jvL hown
 have hvl:vs.length = args.length := hr.1
 let n := c.ps.length - m
 have hn:args.length - m = n := by rw [hlen]
 have hnm:n + m = args.length := by omega
 have hssl:ss.length = m := by rw [o1,List.length_drop]; omega
 obtain ⟨vl1,vl2,vl3⟩ := jj8 c.ps x
 obtain ⟨rl1,rl2,rl3⟩ := jj8 c.rs (c.fn x)
 -- the arguments that are handed in
 have hio:∀ j,j < m→∃ s t t' l e b es,args[n + j]? = some (.own s t)∧ss[j]? = some s∧T.c s = .dyn true t' l∧vs[n + j]? = some (.ref s (E.vr s) 0 (E.ln s) t.n)∧st.hp[s]? = some b∧b.ver = E.vr s∧b.st = .live∧E.ln s = l.length∧b.cs = es.flatten.map .p ∧
   c.ps[n + j]? = some (.one (.sl e))∧(∃ l2:List e.den,(jax c.ps x)[n + j]? = some (.p (.sl e.n (List.map e.enc l2) false))∧l2.length = l.length∧LeLL es (List.map e.enc l2))∧t.n = e.n∧0 < e.n∧0 < l.length := by
  intro j hj
  have hlt:n + j < args.length := by omega
  obtain ⟨s,t,t',l,k1,k2,k3,k4,k5⟩ := o2 j args[n + j] (by rw [List.getElem?_drop,hn]; exact List.getElem?_eq_getElem hlt)
  have ha:args[n + j]? = some (.own s t) := by rw [List.getElem?_eq_getElem hlt,k1]
  obtain ⟨v,hv⟩ := jbx hvl.symm ha
  have hvr := hr.2 _ _ _ ha hv
  obtain ⟨b,q1,q2,q3,q4,q5,es,q6,q7⟩ := jc8 h k3
  have hp:n + j < c.ps.length := by omega
  have hsh := hshape (c.ps[n + j]) (by
   rw [List.mem_iff_getElem?]
   exact ⟨j,by rw [List.getElem?_drop]; exact List.getElem?_eq_getElem hp⟩)
  obtain ⟨e,he,he0⟩ : ∃ e,c.ps[n + j] = .one (.sl e)∧0 < e.n := by
   unfold jvx at hsh
   split at hsh
   ·rename_i e heq
    exact ⟨e,heq,by
     have:1≤e.n := by simpa [Nat.blt] using hsh
     exact this⟩
   ·cases hsh
  have hpe:c.ps[n + j]? = some (.one (.sl e)) := by rw [List.getElem?_eq_getElem hp,he]
  obtain ⟨y,y1,y2,_⟩ := hx2 _ _ _ hpe ha
  -- the typed list
  have himp:∃ l2:List e.den,y = l2∧jbO T.c e (jaU e jcN) (.own s t) = some l2 := by
   simp only [jdb,jaU] at y1
   split at y1
   ·rename_i y' _ hy'
    split at hy'
    ·rename_i l2 hl2
     simp only [sJ,pJ] at hy' y1
     exact ⟨l2,by rw [← y1,← hy'.1],hl2⟩
    ·cases hy'
   ·cases y1
  obtain ⟨l2,rfl,himp⟩ := himp
  simp only [jbO,k3] at himp
  split at himp
  ·rename_i hn'
   have hn' := of_decide_eq_true hn'
   obtain ⟨e1,e2⟩ := jd0 himp
   refine ⟨s,t,t',l,e,b,es,ha,k2,k3,by rw [hv,hvr.inv_own],q1,q2,q4,q5,q6,hpe,⟨y,y2,?_,by rw [← e2]; exact q7⟩,hn'.trans e1,he0,hps _ (by simp [k5])⟩
   have := congrArg List.length e2
   simpa using this.symm
  ·cases himp
 let us:List (Nat×Blk) := ss.map fun s => (s,(st.hp[s]?).getD ⟨0,.dead,[]⟩)
 have husl:us.length = m := by simp [us,hssl]
 have hus1:us.map (·.1) = ss := by simp [us,Function.comp_def]
 have hus:∀ (j s:Nat) (b:Blk),ss[j]? = some s→st.hp[s]? = some b→us[j]? = some (s,b) := by
  intro j s b hj hb
  simp only [us,List.getElem?_map,hj,Option.map_some,hb,Option.getD_some]
 have hjm:∀ {j:Nat} {s:Nat},ss[j]? = some s→j < m := fun hj => by rw [← hssl]; exact (List.getElem?_eq_some_iff.1 hj).1
 -- the jal of the others
 have hA:(args.take n).flatMap jaN = (vs.take n).flatMap jal := by
  have:∀ (i:Nat) (c0:TV) (v:V),args[i]? = some c0→vs[i]? = some v→jal v = jaN c0 := by
   intro i c0 v hc0 hv
   have hp:i < c.ps.length := by have := (List.getElem?_eq_some_iff.1 hc0).1; omega
   obtain ⟨y,y1,_,_⟩ := hx2 i _ _ (List.getElem?_eq_getElem hp) hc0
   obtain ⟨a,_,_,k3⟩ := jj3 h y1 (hr.2 i c0 v hc0 hv)
   exact k3
  have gen:∀ (A:List TV) (B:List V),B.length = A.length→(∀ (i:Nat) (c0:TV) (v:V),A[i]? = some c0→B[i]? = some v→jal v = jaN c0)→A.flatMap jaN = B.flatMap jal := by
   intro A
   induction A with
   | nil => intro B hB _; have:B = [] := List.length_eq_zero_iff.1 hB; subst this; rfl
   | cons a A ih =>
    intro B hB hh
    cases B with
    | nil => simp at hB
    | cons b B =>
     rw [List.flatMap_cons,List.flatMap_cons,hh 0 a b rfl rfl,ih B (by simpa using hB) (fun i c0 v h1 h2 => hh (i + 1) c0 v (by simpa using h1) (by simpa using h2))]
  refine gen _ _ (by simp [hvl]) (fun i c0 v hc0 hv => ?_)
  rw [List.getElem?_take] at hc0 hv
  split at hc0
  ·rename_i hi
   rw [if_pos hi] at hv
   exact this i c0 v hc0 hv
  ·cases hc0
 have hAok:∀ t∈(vs.take n).flatMap jal,X.m≤t∧T.c t ≠ .dead∧t ∉ ss := by
  intro t ht
  rw [← hA,← hn] at ht
  have := hall t ht
  simp only [Bool.and_eq_true,Bool.not_eq_true',List.any_eq_false] at this
  exact ⟨Nat.le_of_ble_eq_true this.1.1,fun e => by rw [e] at this; exact absurd this.1.2 (by simp [jdE]),fun hm => this.2 t hm (by simp)⟩
 have hver:∀ t ver,t ∉ ss→verU us t ver = none := by
  intro t ver ht
  cases hv:verU us t ver with
  | none => rfl
  | some i =>
   obtain ⟨q,e1,e2,_⟩ := jn7 hv
   exact absurd (by rw [← hus1]; exact List.mem_map.2 ⟨q,List.mem_of_getElem? e1,e2⟩) ht
 have hver2:∀ (j s:Nat) (b:Blk),ss[j]? = some s→st.hp[s]? = some b→b.ver = E.vr s→verU us s (E.vr s) = some j := by
  intro j s b hj hb hbv
  have hu := hus j s b hj hb
  have hidx:idxU us s = some j := by
   unfold idxU
   rw [List.findIdx?_eq_some_iff_getElem]
   have hjl:j < us.length := (List.getElem?_eq_some_iff.1 hu).1
   refine ⟨hjl,?_,fun i hi => ?_⟩
   ·have := (List.getElem?_eq_some_iff.1 hu).2
    rw [this]; simp
   ·have hil:i < us.length := Nat.lt_trans hi hjl
    simp only [beq_iff_eq,Bool.not_eq_true]
    have h3:ss[i]? = some (us[i]).1 := by
     rw [← hus1,List.getElem?_map,List.getElem?_eq_getElem hil]; rfl
    have hne:(us[i]).1 ≠ s := by
     intro e
     rw [e] at h3
     have hi' := (List.getElem?_eq_some_iff.1 h3).1
     have:i = j := (List.getElem?_inj hi' hnd).1 (h3.trans hj.symm)
     omega
    simpa using hne
  unfold verU
  rw [hidx]
  simp only [hu]
  rw [if_pos hbv]
 -- what the others are
 have hioA:∀ v,(∀ t∈jal v,t ∉ ss)→ioVN us st.hp v = pur st.hp v∧ioSN us v = jal v := by
  intro v hv
  cases v with
  | ptr t ver o =>
   have := hver t ver (hv t (by simp [jal,jaK]))
   simp only [ioVN,ioSN,this,jal,jaK,and_self]
  | ref t ver o n k =>
   have := hver t ver (hv t (by simp [jal,jaK]))
   simp only [ioVN,ioSN,this,jal,jaK,and_self]
  | _ => exact ⟨rfl,rfl⟩
 have hioB:∀ j,j < m→∃ v s t,vs[n + j]? = some v∧ss[j]? = some s∧v = .ref s (E.vr s) 0 (E.ln s) t∧ioVN us st.hp v = some (.ref j 0 0 (E.ln s) t)∧ioSN us v = [] := by
  intro j hj
  obtain ⟨s,t,t',l,e,b,es,k1,k2,k3,k4,k5,k6,k7,k8,k9,k10,k11,k12,k13,k14⟩ := hio j hj
  have := hver2 j s b k2 k5 k6
  exact ⟨_,s,t.n,k4,k2,rfl,by simp only [ioVN,this],by simp only [ioSN,this]⟩
 have hAmem:∀ (i:Nat) (v:V),i < n→vs[i]? = some v→∀ t∈jal v,t∈(vs.take n).flatMap jal := by
  intro i v hi hv t ht
  refine List.mem_flatMap.2 ⟨v,?_,ht⟩
  rw [List.mem_iff_getElem?]
  exact ⟨i,by rw [List.getElem?_take,if_pos hi]; exact hv⟩
 let as' : List V := as.take n ++ (List.range m).map fun j => V.ref j 0 0 (E.ln (ss.getD j 0)) (slK ((jax c.ps x).getD (n + j) .und))
 have hK:∀ j s t t' l e b es,args[n + j]? = some (.own s t)∧ss[j]? = some s∧T.c s = .dyn true t' l∧vs[n + j]? = some (.ref s (E.vr s) 0 (E.ln s) t.n)∧st.hp[s]? = some b∧b.ver = E.vr s∧b.st = .live∧E.ln s = l.length∧b.cs = es.flatten.map .p ∧
   c.ps[n + j]? = some (.one (.sl e))∧(∃ l2:List e.den,(jax c.ps x)[n + j]? = some (.p (.sl e.n (List.map e.enc l2) false))∧l2.length = l.length∧LeLL es (List.map e.enc l2))∧t.n = e.n∧0 < e.n∧0 < l.length →
   V.ref j 0 0 (E.ln (ss.getD j 0)) (slK ((jax c.ps x).getD (n + j) .und)) = .ref j 0 0 (E.ln s) t.n := by
  rintro j s t t' l e b es ⟨k1,k2,k3,k4,k5,k6,k7,k8,k9,k10,⟨l2,k11,k11',k11''⟩,k12,k13,k14⟩
  simp only [List.getD,k2,k11,Option.getD_some,slK,k12]
 have hopt:jak (ioVN us st.hp) vs = some as' := by
  have gen:∀ (l:List V) (r:List V),r.length = l.length→(∀ (i:Nat) (v a:V),l[i]? = some v→r[i]? = some a→ioVN us st.hp v = some a)→jak (ioVN us st.hp) l = some r := by
   intro l
   induction l with
   | nil => intro r hr _; have:r = [] := List.length_eq_zero_iff.1 hr; subst this; rfl
   | cons v l ih =>
    intro r hr hh
    cases r with
    | nil => simp at hr
    | cons a r =>
     simp only [jak,hh 0 v a rfl rfl,ih r (by simpa using hr) (fun i v a h1 h2 => hh (i + 1) v a (by simpa using h1) (by simpa using h2))]
  refine gen vs as' ?_ (fun i v a hv ha => ?_)
  ·simp only [as',List.length_append,List.length_take,List.length_map,List.length_range,ag1]; omega
  ·simp only [as'] at ha
   rw [List.getElem?_append] at ha
   have htl:(as.take n).length = n := by rw [List.length_take,ag1]; omega
   rw [htl] at ha
   split at ha
   ·rename_i hi
    rw [List.getElem?_take,if_pos hi] at ha
    obtain ⟨v',e1,e2⟩ := ag2 i a ha
    rw [hv] at e1; injection e1 with e1; subst e1
    rw [(hioA v (fun t ht => (hAok t (hAmem i v hi hv t ht)).2.2)).1]; exact e2
   ·rename_i hi
    have hi' : i - n < m := by have := (List.getElem?_eq_some_iff.1 hv).1; omega
    rw [List.getElem?_map,List.getElem?_range hi'] at ha
    simp only [Option.map_some,sJ] at ha; subst ha
    obtain ⟨s,t,t',l,e,b,es,kk⟩ := hio (i - n) hi'
    have hk := hK _ _ _ _ _ _ _ _ kk
    rw [hk]
    obtain ⟨k1,k2,k3,k4,k5,k6,_⟩ := kk
    rw [show n + (i - n) = i by omega,hv] at k4
    injection k4 with k4; subst k4
    have := hver2 (i - n) s b k2 k5 k6
    simp only [ioVN,this]
 have hopt2:∃ pss,jak (fun q:Nat×Blk => allP q.2.cs) us = some pss∧pss.length = m∧∀ (j:Nat) (p:List Pv),pss[j]? = some p→∃ s b,ss[j]? = some s∧st.hp[s]? = some b∧b.cs = p.map .p := by
  have gen:∀ (l:List (Nat×Blk)),(∀ q∈l,∃ p,allP q.2.cs = some p)→∃ r,jak (fun q:Nat×Blk => allP q.2.cs) l = some r := by
   intro l
   induction l with
   | nil => intro _; exact ⟨[],rfl⟩
   | cons q l ih =>
    intro hh
    obtain ⟨p,hp⟩ := hh q (by simp)
    obtain ⟨r,hr⟩ := ih (fun q hq => hh q (by simp [hq]))
    exact ⟨p :: r,by simp only [jak,hp,hr]⟩
  obtain ⟨pss,hp⟩ := gen us (fun q hq => by
   obtain ⟨j,hj⟩ := List.getElem?_of_mem hq
   have hjl:j < m := by rw [← husl]; exact (List.getElem?_eq_some_iff.1 hj).1
   obtain ⟨s,t,t',l,e,b,es,k1,k2,k3,k4,k5,k6,k7,k8,k9,_⟩ := hio j hjl
   rw [hus j s b k2 k5] at hj; injection hj with hj; subst hj
   exact ⟨es.flatten,by rw [k9]; exact jcM _⟩)
  obtain ⟨l1,l2⟩ := jbV us pss hp
  refine ⟨pss,hp,by rw [l1,husl],fun j p hj => ?_⟩
  obtain ⟨q,e1,e2⟩ := l2 j p hj
  have hjl:j < m := by rw [← husl]; exact (List.getElem?_eq_some_iff.1 e1).1
  obtain ⟨s,t,t',l,e,b,es,k1,k2,k3,k4,k5,_⟩ := hio j hjl
  rw [hus j s b k2 k5] at e1; injection e1 with e1; subst e1
  exact ⟨s,b,k2,k5,jcK e2⟩
 obtain ⟨pss,hpss,hpl,hpget⟩ := hopt2
 have hioS:vs.flatMap (ioSN us) = (vs.take n).flatMap jal := by
  have hsplit:vs = vs.take n ++ vs.drop n := (List.take_append_drop n vs).symm
  have e1:(vs.drop n).flatMap (ioSN us) = [] := by
   rw [List.flatMap_eq_nil_iff]
   intro v hv
   obtain ⟨j,hj⟩ := List.getElem?_of_mem hv
   rw [List.getElem?_drop] at hj
   have hjm:j < m := by have := (List.getElem?_eq_some_iff.1 hj).1; omega
   obtain ⟨v',s,t,k1,_,_,_,k5⟩ := hioB j hjm
   rw [hj] at k1; injection k1 with k1; subst k1
   exact k5
  have e2:(vs.take n).flatMap (ioSN us) = (vs.take n).flatMap jal := by
   have:∀ v∈vs.take n,ioSN us v = jal v := fun v hv => (hioA v (fun t ht => (hAok t (List.mem_flatMap.2 ⟨v,hv,ht⟩)).2.2)).2
   have gen:∀ (l:List V),(∀ v∈l,ioSN us v = jal v)→l.flatMap (ioSN us) = l.flatMap jal := by
    intro l
    induction l with
    | nil => intro _; rfl
    | cons a l ih => intro hh; rw [List.flatMap_cons,List.flatMap_cons,hh a (by simp),ih (fun v hv => hh v (by simp [hv]))]
   exact gen _ this
  rw [hsplit,List.flatMap_append,e1,e2,List.append_nil,← hsplit]
 have hret' : RetN P f as' pss (jj0 ((jax c.rs (c.fn x)).take (c.rs.length - m))) (((jax c.rs (c.fn x)).drop (c.rs.length - m)).map fun v => (slEs v).flatten) := by
  have hrefs:∀ (k:Nat) (l:List V),(jfz k l).length = l.length∧∀ (j:Nat) (v:V),l[j]? = some v→(jfz k l)[j]? = some (.ref (k + j) 0 0 (slEs v).length (slK v)) := by
   intro k l
   induction l generalizing k with
   | nil => exact ⟨rfl,by simp⟩
   | cons a l ih =>
    obtain ⟨i1,i2⟩ := ih (k + 1)
    refine ⟨by simp [jfz,i1],fun j v hv => ?_⟩
    match j with
    | 0 => simp only [List.getElem?_cons_zero,sJ] at hv; subst hv; rfl
    | j + 1 =>
     have := i2 j v (by simpa using hv)
     simp only [jfz,List.getElem?_cons_succ,this]
     congr 2; omega
  obtain ⟨r1,r2⟩ := hrefs 0 ((jax c.ps x).drop (c.ps.length - m))
  refine jGY (bs := (jax c.ps x).take (c.ps.length - m) ++ jfz 0 ((jax c.ps x).drop (c.ps.length - m))) ?_ (fun i a b ha hb => ?_) (qss := ((jax c.ps x).drop (c.ps.length - m)).map fun v => (slEs v).flatten) ?_ (fun j p q hp hq => ?_) hret
  ·simp only [as',List.length_append,List.length_take,List.length_map,List.length_range,r1,List.length_drop,vl1,ag1]; omega
  ·simp only [as'] at ha
   have htl:(as.take n).length = n := by rw [List.length_take,ag1]; omega
   have htl2:((jax c.ps x).take n).length = n := by rw [List.length_take,vl1]; omega
   rw [List.getElem?_append,htl] at ha
   rw [show c.ps.length - m = n from rfl,List.getElem?_append,htl2] at hb
   by_cases hi:i < n
   ·rw [if_pos hi,List.getElem?_take,if_pos hi] at ha hb
    right
    obtain ⟨v',e1,e2⟩ := ag2 i a ha
    exact ⟨⟨_,_,e2⟩,g2.2 i a b ha hb⟩
   ·left
    rw [if_neg hi] at ha hb
    have hi' : i - n < m := by
     have := (List.getElem?_eq_some_iff.1 ha).1
     simpa using this
    rw [List.getElem?_map,List.getElem?_range hi'] at ha
    simp only [Option.map_some,sJ] at ha; subst ha
    obtain ⟨s,t,t',l,e,b0,es,kk⟩ := hio (i - n) hi'
    rw [hK _ _ _ _ _ _ _ _ kk]
    obtain ⟨k1,k2,k3,k4,k5,k6,k7,k8,k9,k10,⟨l2,k11,k11',k11''⟩,k12,k13,k14⟩ := kk
    have := r2 (i - n) _ (by rw [List.getElem?_drop]; exact k11)
    rw [show c.ps.length - m = n from rfl] at this
    rw [this] at hb
    injection hb with hb; subst hb
    simp only [slEs,slK,List.length_map,Nat.zero_add,k11',k8,k12]
  ·rw [List.length_map,List.length_drop,vl1,hpl]; omega
  ·obtain ⟨s,b,e1,e2,e3⟩ := hpget j p hp
   obtain ⟨s',t,t',l,e,b',es,k1,k2,k3,k4,k5,k6,k7,k8,k9,k10,⟨l2,k11,k11',k11''⟩,k12,k13,k14⟩ := hio j (hjm e1)
   rw [e1] at k2; injection k2 with k2; subst k2
   rw [e2] at k5; injection k5 with k5; subst k5
   have hpe:p = es.flatten := by
    have:p.map V.p = es.flatten.map V.p := e3.symm.trans k9
    exact (List.map_inj_right (fun a b h => by injection h)).1 this
   rw [List.getElem?_map,List.getElem?_drop,show c.ps.length - m = n from rfl,k11] at hq
   simp only [Option.map_some,sJ] at hq; subst hq
   rw [hpe]
   exact k11''.flat
 refine ⟨h1,g3,?_,jj0 ((jax c.rs (c.fn x)).take (c.rs.length - m)),jb4 (jaL st.hp (vs.flatMap (ioSN us))) us (((jax c.rs (c.fn x)).drop (c.rs.length - m)).map fun v => (slEs v).flatten),?_,?_⟩
 ·simp only [wrC,g3]
  congr 1
  apply List.filter_congr
  intro t ht
  refine jfC h ?_
  rw [← List.take_append_drop n args,List.flatMap_append,List.mem_append] at ht
  rcases ht with ht | ht
  ·rw [hA] at ht; exact (hAok t ht).2.1
  ·obtain ⟨c0,hc0,ht⟩ := List.mem_flatMap.1 ht
   obtain ⟨j,hj⟩ := List.getElem?_of_mem hc0
   have hjm:j < m := by have := (List.getElem?_eq_some_iff.1 hj).1; rw [List.length_drop] at this; omega
   obtain ⟨s,t1,t',l,e,b,es,k1,k2,k3,_⟩ := hio j hjm
   rw [List.getElem?_drop,k1] at hj; injection hj with hj; subst hj
   have:t = s := by simpa [jaN,jco] using ht
   subst this
   rw [k3]; intro e; cases e
 ·refine .ion as' _ us pss _ (by rw [hus1]; exact hnd) (fun q hq => ?_) (fun q hq => ?_) hpss hopt ?_ hret'
  ·obtain ⟨j,hj⟩ := List.getElem?_of_mem hq
   have hjl:j < m := by rw [← husl]; exact (List.getElem?_eq_some_iff.1 hj).1
   obtain ⟨s,t,t',l,e,b,es,k1,k2,k3,k4,k5,_⟩ := hio j hjl
   rw [hus j s b k2 k5] at hj; injection hj with hj; subst hj
   exact List.mem_flatMap.2 ⟨_,List.mem_of_getElem? k4,by simp [jal,jaK]⟩
  ·obtain ⟨j,hj⟩ := List.getElem?_of_mem hq
   have hjl:j < m := by rw [← husl]; exact (List.getElem?_eq_some_iff.1 hj).1
   obtain ⟨s,t,t',l,e,b,es,k1,k2,k3,k4,k5,k6,k7,k8,k9,k10,⟨l2,k11,k11',k11''⟩,k12,k13,k14⟩ := hio j hjl
   rw [hus j s b k2 k5] at hj; injection hj with hj; subst hj
   refine ⟨k5,k7,?_⟩
   rw [k9,List.length_map]
   have h5:es.flatten.length = es.length * e.n := jdY es (fun e' he' => by
    have := jfx k11'' e' he'; exact this)
   have h6:es.length = l.length := by rw [jcB k11'']; exact k11'
   rw [h5,h6]
   exact Nat.mul_pos k14 k13
  ·rw [hioS,List.all_eq_true]
   intro t ht
   obtain ⟨q1,_,q3⟩ := hAok t ht
   rw [hus1]
   simp [q1,q3]
 ·rw [hioS,← hA,hn]
  obtain ⟨c1,c2⟩ := jd6 (ss := (args.take n).flatMap jaN) h
  have hfr:∀ (s:Nat),s∈ss→(jaL st.hp ((args.take n).flatMap jaN))[s]? = st.hp[s]? := fun s hs => jf9 _ _ _ (fun e => (hAok s (by rw [← hA]; exact e)).2.2 hs)
  have hres:∀ j,j < m→∃ s b e,∃ l' : List e.den,ss[j]? = some s∧st.hp[s]? = some b∧b.ver = E.vr s∧((tvPs c.rs (c.fn x)).drop (c.rs.length - m))[j]? = some (.sl e l')∧((jax c.rs (c.fn x)).drop (c.rs.length - m))[j]? = some (.p (.sl e.n (List.map e.enc l') false))∧E.ln s = l'.length := by
   intro j hj
   obtain ⟨s,t,t',l,e,b,es,k1,k2,k3,k4,k5,k6,k7,k8,k9,k10,⟨l2,k11,k11',k11''⟩,k12,k13,k14⟩ := hio j hj
   have eqGet:∀ (a b:List PSh),psEq a b = true→∀ (i:Nat) (p:PSh),a[i]? = some p→b[i]? = some p := by
    intro a
    induction a with
    | nil => intro b _ i p h; simp at h
    | cons a r ih =>
     intro b hb i p hp
     cases a with
     | one ta =>
      cases b with
      | nil => simp [psEq] at hb
      | cons b s =>
       cases b with
       | one tb =>
        simp only [psEq,Bool.and_eq_true] at hb
        match i with
        | 0 => simp only [List.getElem?_cons_zero,sJ] at hp ⊢; rw [← hp,Ty.beq_eq hb.1]
        | i + 1 => exact ih s hb.2 i p (by simpa using hp)
       | _ => simp [psEq] at hb
     | _ => simp [psEq] at hb
   have hrp := eqGet _ _ hpsEq j (.one (.sl e)) (by rw [List.getElem?_drop]; exact k10)
   rw [List.getElem?_drop] at hrp
   obtain ⟨l',y1,y2⟩ := rl3 _ _ hrp
   refine ⟨s,b,e,l',k2,k5,k6,by rw [List.getElem?_drop]; exact y2,by rw [List.getElem?_drop]; exact y1,?_⟩
   have hl := congrArg (·[j]?) hlens
   simp only [List.getElem?_map,List.getElem?_drop] at hl
   rw [y1,show c.ps.length - m = n from rfl,k11] at hl
   simp only [Option.map_some,sJ,valP,Ty.enc,slEs,List.length_map] at hl
   rw [k8,← k11',hl]
  obtain ⟨d1,d2⟩ := jvN (ss := ss) (ts := (tvPs c.rs (c.fn x)).drop (c.rs.length - m)) (us := us) (pss := ((jax c.rs (c.fn x)).drop (c.rs.length - m)).map fun v => (slEs v).flatten) c1 (by rw [husl,hssl]) (by rw [List.length_drop,rl2,hssl]; omega) (by rw [List.length_map,List.length_drop,rl1,hssl]; omega)
   (fun j s hj => by
    obtain ⟨s',b,e,l',e1,e2,e3,e4,e5,e6⟩ := hres j (hjm hj)
    rw [hj] at e1; injection e1 with e1; subst e1
    refine ⟨b,e,l',hus j s b hj e2,?_,e3,e4,by rw [List.getElem?_map,e5]; rfl,e6⟩
    dsimp only
    rw [hfr s (List.mem_of_getElem? hj),e2]; simp)
  refine ⟨d1,c2.trans d2,?_⟩
  have hall := jgm (E := E) c.rs (c.fn x)
  have htake := hall.take (c.rs.length - m)
  unfold oneT jj0
  match h1:(tvPs c.rs (c.fn x)).take (c.rs.length - m),h2:(jax c.rs (c.fn x)).take (c.rs.length - m),htake with
  | [],[],h => exact .tup _ _ h.1 h.2
  | [a],[v],h => exact h.2 0 a v rfl rfl
  | a :: a' :: cs,v :: v' :: vs,h => exact .tup _ _ h.1 h.2

theorem jGZ (hC:jag P X.C) (h:Conc X.nt X.ns E T st) {f:FuncId} {args:List TV} {vs:List V} (hr:LRel E args vs) {s:Nat} {ps:List Prop} {tv:TV} {T' : TSt} (hc:jj7 X T f args s = some (ps,tv,T')) (hps:∀ p∈ps,p) :
  jan P f = true∧vs.flatMap jal = args.flatMap jaN∧wrC st.hp vs s = (args.flatMap jaN).filter (jcC T) ++ [s]∧∃ v hp' E',CallR P X.m s st.hp f vs v hp'∧Conc X.nt X.ns E' T' ⟨st.ts,hp'⟩∧Hist E T E' T'∧TRel E' tv v := by
 unfold jj7 at hc
 split at hc
 ·rename_i r hr'
  simp only [sJ] at hc; subst hc
  obtain ⟨g1,g2,g3,v,hp',g4,g5,g6,g7⟩ := jGV hC h hr hr' hps s
  exact ⟨g1,g2,g3,v,hp',E,g4,g5,g6,g7⟩
 ·split at hc
  ·rename_i r hr'
   simp only [sJ] at hc; subst hc
   exact jGW hC h hr hr' hps
  ·split at hc
   ·rename_i r hr'
    simp only [sJ] at hc; subst hc
    obtain ⟨g1,g2,g3,v,hp',g4,g5,g6,g7⟩ := jvO hC h hr hr' hps s
    exact ⟨g1,g2,g3,v,hp',E,g4,g5,g6,g7⟩
   ·obtain ⟨g1,g2,g3,v,hp',g4,g5,g6,g7⟩ := jvO hC h hr hc hps s
    exact ⟨g1,g2,g3,v,hp',E,g4,g5,g6,g7⟩

theorem jvP (hC:jag P X.C) (h:Conc X.nt X.ns E T st) {raw:Opd→TV} (hraw:∀ x,TRel E (raw x) (st.get x)) {op:AI} {ps:List Prop} {tv:TV} {T' : TSt} (hd:tdo X raw T op = some (ps,tv,T')) (hps:∀ p∈ps,p) :
  ∃ v hp' E',jcR P X.m st op v hp'∧Conc X.nt X.ns E' T' ⟨st.ts,hp'⟩∧Hist E T E' T'∧TRel E' tv v∧jbR st op = fpT raw T op := by
 have viaCall:(match jcD raw op with
  | some (f,args) => match jj7 X T f args (jcP op) with
   | some r => some r
   | none => match jgn X T f args with
    | some (ps,tv,ss) => some (ps,tv,frzT T ss)
    | none => none
  | none => none) = some (ps,tv,T')→fpT raw T op = (match jcD raw op with
  | some (_,args) => (args.flatMap jaN ++ [jcP op],(args.flatMap jaN).filter (jcC T) ++ [jcP op])
  | none => ([],[]))→∃ v hp' E',jcR P X.m st op v hp'∧Conc X.nt X.ns E' T' ⟨st.ts,hp'⟩∧Hist E T E' T'∧TRel E' tv v∧jbR st op = fpT raw T op := by
  intro hd hf
  split at hd
  ·rename_i f args hargs
   split at hd
   ·rename_i r hc
    simp only [sJ] at hd; subst hd
    obtain ⟨vs,k1,k2,k3⟩ := joM (P := P) hraw hargs
    obtain ⟨g1,g2,g3,v,hp',E',g4,g5,g6,g7⟩ := jGZ hC h k1 hc hps
    refine ⟨v,hp',E',k2 _ _ _ g1 g4,g5,g6,g7,?_⟩
    rw [k3,hf,hargs,g2,g3]
   split at hd
   ·rename_i ps' tv' ss hc
    simp only [sJ,pJ] at hd; obtain ⟨rfl,rfl,rfl⟩ := hd
    obtain ⟨vs,k1,k2,k3⟩ := joM (P := P) hraw hargs
    obtain ⟨g1,g2,g3,g4,v,g5,g6⟩ := jvI hC h k1 hc hps (jcP op)
    obtain ⟨c1,c2⟩ := jd6 (ss := ss) h
    refine ⟨v,_,E,k2 _ _ _ g1 g5,c1,c2,g6,?_⟩
    rw [k3,hf,hargs,g2,g3,g4]
   ·cases hd
  ·cases hd
 cases op with
 | op o =>
  simp only [tdo] at hd
  split at hd
  ·rename_i ps' tv' hp
   simp only [sJ,pJ] at hd; obtain ⟨rfl,rfl,rfl⟩ := hd
   obtain ⟨v,h1,h2⟩ := jvo h hraw hp hps
   have ht := jvH hp hraw
   exact ⟨v,st.hp,E,h1,h,.refl _ _,h2,by simp only [jbR,fpT,wrs,ht]⟩
  ·obtain ⟨v,hp',E',h1,h2,h3,h4⟩ := jGM h hraw hd hps
   have ht := jGT hd hraw
   exact ⟨v,hp',E',h1,h2,h3,h4,by simp only [jbR,fpT,wrs,ht]⟩
 | call s f args => exact viaCall hd rfl
 | callv s x args => exact viaCall hd rfl

theorem jG0 (hC:jag P X.C) (h:Conc X.nt X.ns E T st) {raw:Opd→TV} (hraw:∀ x,TRel E (raw x) (st.get x)) {op:AI} {ps:List Prop} {tv:TV} (hd:tdoP X raw T op = some (ps,tv)) (hps:∀ p∈ps,p) :
  ∃ v hp',jcR P X.m st op v hp'∧Conc X.nt X.ns E T ⟨st.ts,hp'⟩∧TRel E tv v∧jbR st op = fpT raw T op := by
 have viaCall:(match jcD raw op with
  | some (f,args) => match jgn X T f args with
   | some (ps,tv,ss) => match ss.all (fun s => !jcC T s) with
    | true => some (ps,tv)
    | false => none
   | none => none
  | none => none) = some (ps,tv)→fpT raw T op = (match jcD raw op with
  | some (_,args) => (args.flatMap jaN ++ [jcP op],(args.flatMap jaN).filter (jcC T) ++ [jcP op])
  | none => ([],[]))→∃ v hp',jcR P X.m st op v hp'∧Conc X.nt X.ns E T ⟨st.ts,hp'⟩∧TRel E tv v∧jbR st op = fpT raw T op := by
  intro hd hf
  split at hd
  ·rename_i f args hargs
   split at hd
   ·rename_i ps' tv' ss hc
    split at hd
    ·rename_i hall
     simp only [sJ,pJ] at hd; obtain ⟨rfl,rfl⟩ := hd
     obtain ⟨vs,k1,k2,k3⟩ := joM (P := P) hraw hargs
     obtain ⟨g1,g2,g3,g4,v,g5,g6⟩ := jvI hC h k1 hc hps (jcP op)
     have hT:frzT T ss = T := by
      rw [List.all_eq_true] at hall
      clear g5 g4 g3 g2 k3 hc
      induction ss with
      | nil => rfl
      | cons a r ih =>
       have ha := hall a (by simp)
       have e:jcp T a = T := by
        simp only [jcC,Bool.not_eq_true'] at ha
        unfold jcp
        split
        ·rename_i cs hcs; rw [hcs] at ha; simp at ha
        ·rename_i t l hcs; rw [hcs] at ha; simp at ha
        ·rfl
       rw [frzT,e]
       exact ih (fun x hx => hall x (by simp [hx]))
     obtain ⟨c1,c2⟩ := jd6 (ss := ss) h
     rw [hT] at c1
     exact ⟨v,_,k2 _ _ _ g1 g5,c1,g6,by rw [k3,hf,hargs,g2,g3,g4]⟩
    ·cases hd
   ·cases hd
  ·cases hd
 cases op with
 | op o =>
  simp only [tdoP] at hd
  obtain ⟨v,h1,h2⟩ := jvo h hraw hd hps
  have ht := jvH hd hraw
  exact ⟨v,st.hp,h1,h,h2,by simp only [jbR,fpT,wrs,ht]⟩
 | call s f args => exact viaCall hd rfl
 | callv s x args => exact viaCall hd rfl

omit [Laid] in
theorem jfD (h:Conc X.nt X.ns E T st) {d:Option Nat} (hd:dOk X.nt d = true) {tv:TV} {v:V} (hv:TRel E tv v):Conc X.nt X.ns E (putT T d tv) (st.put d v) := by
 cases d with
 | none => exact h
 | some d =>
  have hd:d < st.ts.length := by rw [h.lt]; exact Nat.ble_eq.mp hd
  refine ⟨by simp [St.put,h.lt],h.lh,fun n => ?_,h.c,h.v0⟩
  simp only [putT,St.put,St.get,List.getElem?_set]
  by_cases e:n = d
  ·subst e
   rw [jc9,if_pos rfl,if_pos hd]
   exact hv
  ·rw [jd2 e,if_neg (fun x => e x.symm)]
   exact h.ts n
omit [Laid] in
theorem jfE {d:Option Nat} {tv:TV}:Hist E T E (putT T d tv) := by
 cases d with
 | none => exact .refl _ _
 | some d => exact fun s => ⟨Nat.le_refl _,Nat.le_refl _,fun _ => ⟨rfl,rfl⟩,fun _ => rfl⟩

omit [Laid] in
theorem joN {d:Option Nat} {v:V} {hp:List Blk} {n:Nat} (h:d ≠ some n):(St.put ⟨st.ts,hp⟩ d v).get (.t n) = st.get (.t n) := by
 cases d with
 | none => rfl
 | some d =>
  simp only [St.put,St.get,List.getElem?_set]
  rw [if_neg (fun e => h (by rw [e]))]

def FpLe (a b:List Nat×List Nat):Prop := (∀ x∈a.1,x∈b.1)∧∀ x∈a.2,x∈b.2

omit [Laid] in
theorem jvQ {raw:Opd→TV} (hraw:∀ x,TRel E (raw x) (st.get x)) {g:Nat} {b want:Bool}:∀ {l:List Opd},(∀ p∈rdGP g b want (l.map raw),p)→b = want→∀ x∈l,TRel E (rdG g want (raw x)) (st.get x)
 | [],_,_,x,hx => by cases hx
 | y :: l,hp,hb,x,hx => by
  have hy := hraw y
  have split:(∀ p∈rdGP g b want (l.map raw),p)∧TRel E (rdG g want (raw y)) (st.get y) := by
   simp only [List.map_cons] at hp
   cases hr:raw y with
   | opt g' b' want' v =>
    rw [hr] at hp hy
    simp only [rdGP] at hp
    simp only [rdG]
    split at hp
    ·rename_i hc
     rw [if_pos hc]
     refine ⟨fun p hp' => hp p (by simp [hp']),hy.inv_opt ?_⟩
     have:b' = b := hp _ (List.mem_cons_self ..)
     rw [this,hb,hc.2]
    ·rename_i hc
     rw [if_neg hc]
     exact ⟨hp,hy⟩
   | _ => rw [hr] at hp hy; exact ⟨hp,hy⟩
  rcases List.mem_cons.1 hx with rfl | hx
  ·exact split.2
  ·exact jvQ hraw split.1 hb x hx

omit [Laid] in
theorem jG1 {want:Bool} {x:TV} {v:V} {b:Bool} (hx:TRel E x v) (h:joK want x = some b):(v = .no ∨ ∃ c,v = .p (.bool c)∧(c = want ↔ b = want))∧(v = .no→b ≠ want) := by
 unfold joK at h
 split at h
 ·simp only [sJ] at h; subst h
  rw [hx.inv_b]
  exact ⟨.inr ⟨_,rfl,Iff.rfl⟩,fun e => by cases e⟩
 ·rename_i g b' w b2
  simp only [sJ] at h; subst h
  by_cases e:b' = w
  ·have := hx.inv_opt e
   rw [this.inv_b]
   subst e
   refine ⟨.inr ⟨b2,rfl,?_⟩,fun e => by cases e⟩
   cases b' <;> cases b2 <;> cases want <;> simp [effB]
  ·rw [hx.inv_opt2 e]
   refine ⟨.inl rfl,fun _ => ?_⟩
   cases b' <;> cases w <;> cases b2 <;> cases want <;> simp_all [effB]
 ·cases h

theorem jvR (hC:jag P X.C) {i:AIns} (h:Conc X.nt X.ns E T st) {k:TSt→List Nat×List Nat→Prop} (hk:tins X i T k) :
  (i.guard = none∧∃ v hp' E' T' fp,jcR P X.m st i.op v hp'∧jbR st i.op = fp∧Conc X.nt X.ns E' T' (St.put ⟨st.ts,hp'⟩ i.dst v)∧Hist E T E' T'∧k T' fp) ∨
  ∃ g want b,i.guard = some (some g,want)∧(st.get (.t g) = .no ∨ ∃ c,st.get (.t g) = .p (.bool c)∧(c = want ↔ b = want))∧(st.get (.t g) = .no→b ≠ want) ∧
   (b = want→∃ v hp' E' T' fp,jcR P X.m st i.op v hp'∧jbR st i.op = fp∧Conc X.nt X.ns E' T' (St.put ⟨st.ts,hp'⟩ i.dst v)∧Hist E T E' T'∧k T' fp) ∧
   (b ≠ want→∃ E' T' fp,Conc X.nt X.ns E' T' (st.put i.dst .no)∧Hist E T E' T'∧k T' fp) := by
 classical
 have hraw := jjN h
 unfold tins at hk
 split at hk
 ·exact hk.elim
 ·rename_i hdst
  split at hk
  ·rename_i hg
   left
   refine ⟨hg,?_⟩
   split at hk
   ·rename_i ps tv T' hd
    obtain ⟨hps,hk⟩ := jhV.1 hk
    obtain ⟨v,hp',E',h1,h2,h3,h4,h5⟩ := jvP hC h hraw hd hps
    exact ⟨v,hp',E',_,_,h1,h5,jfD h2 hdst h4,h3.trans jfE,hk⟩
   ·exact hk.elim
  ·rename_i g want hg
   right
   split at hk
   ·rename_i b hb
    have hgb := jG1 (h.ts g) hb
    refine ⟨g,want,b,hg,hgb.1,hgb.2,?_⟩
    -- under the guard
    let raw1:Opd→TV := fun x => rdG g want (T.raw x)
    let raw2:Opd→TV := fun x => if x∈jcy i then raw1 x else .und
    have under:(∀ p∈rdGP g b want ((jcy i).map T.raw),p)→b = want→∀ x,TRel E (raw2 x) (st.get x) := by
     intro hp hbw x
     simp only [raw2]
     split
     ·rename_i hx; exact jvQ hraw hp hbw x hx
     ·exact .und _
    have cong := jGS (X := X) (T := T) (raw := raw1) (raw2 := raw2) (i := i) (fun x hx => if_pos hx)
    split at hk
    ·rename_i ps tv hd
     obtain ⟨hps,hk⟩ := jhV.1 hk
     refine ⟨fun hbw => ?_,fun hbw => ⟨E,_,_,jfD h hdst (.opt _ _ _ _ _ (fun e => absurd e hbw) fun _ => rfl),jfE,hk⟩⟩
     have hps' : ∀ p∈rdGP g b want ((jcy i).map T.raw) ++ ps,p := fun p hp => hps _ (List.mem_map.2 ⟨p,hp,rfl⟩) hbw
     have hr2 := under (fun p hp => hps' p (by simp [hp])) hbw
     obtain ⟨v,hp',h1,h2,h3,h4⟩ := jG0 hC h hr2 (by rw [cong.2.1]; exact hd) (fun p hp => hps' p (by simp [hp]))
     rw [cong.2.2] at h4
     exact ⟨v,hp',E,_,_,h1,h4,jfD h2 hdst (.opt _ _ _ _ _ (fun _ => h3) fun e => absurd hbw e),jfE,hk⟩
    ·split at hk
     ·rename_i ps tv T' hd
      obtain ⟨hk1,hk2⟩ := hk
      refine ⟨fun hbw => ?_,fun hbw => ⟨E,_,_,jfD h hdst .no,jfE,hk2 (by cases b <;> cases want <;> simp_all)⟩⟩
      obtain ⟨hps',hk⟩ := jhV.1 (hk1 hbw)
      have hr2 := under (fun p hp => hps' p (by simp [hp])) hbw
      obtain ⟨v,hp',E',h1,h2,h3,h4,h5⟩ := jvP hC h hr2 (by rw [cong.1]; exact hd) (fun p hp => hps' p (by simp [hp]))
      rw [cong.2.2] at h5
      exact ⟨v,hp',E',_,_,h1,h5,jfD h2 hdst h4,h3.trans jfE,hk⟩
     ·obtain ⟨hk1,hk2⟩ := hk
      exact ⟨fun hbw => (hk1 hbw).elim,fun hbw => ⟨E,_,_,jfD h hdst .no,jfE,hk2 (by cases b <;> cases want <;> simp_all)⟩⟩
   ·exact hk.elim
  ·exact hk.elim
end
end Go.Mx
