/- Layers of the walk: abstract values, operations, calls, loops, and what they do. No condition. -/
import Derived.Test.YtepdfhjmngbhhaaGreatDoorMxR
import Derived.TacticsIn
import Derived.Deep.LoopGhost
import Derived.RangeFuncSeq
import Derived.RangeFuncRecord
import Derived.RangeFuncLeaves
namespace Go.Mx
variable [Laid]
open Go.RowKit

def St.retts (st:St) (hp:List Blk):St := ⟨st.ts,hp⟩

def AStep (P:Program) (m:Nat) (st:St) (i:AIns) (K:St→Prop):Prop :=
 match i.op with
 | .call s f args => ∃ v hp',CallR P m s st.hp f (args.map st.get) v hp'∧K (St.put ⟨st.ts,hp'⟩ i.dst v)
 | .callv s x args => match st.get x with
  | .clo f caps => callable P f = true∧∃ v hp',CallR P m s st.hp f (args.map st.get ++ caps) v hp'∧K (St.put ⟨st.ts,hp'⟩ i.dst v)
  | .p (.fn f caps) => callable P f = true∧∃ v hp',CallR P m s st.hp f (args.map st.get ++ caps.map .ipt) v hp'∧K (St.put ⟨st.ts,hp'⟩ i.dst v)
  | _ => False
 | .op op => ∃ v hp',astep st.hp st.get op = some (v,hp')∧K (St.put ⟨st.ts,hp'⟩ i.dst v)

def ARun (P:Program) (m:Nat):List AIns→St→(St→Prop)→Prop
 | [],st,K => K st
 | i :: r,st,K =>
  match i.guard with
  | none => AStep P m st i (fun st' => ARun P m r st' K)
  | some (some g,want) => match st.get (.t g) with
   | .p (.bool b) => if b = want then AStep P m st i (fun st' => ARun P m r st' K) else ARun P m r (st.put i.dst .no) K
   | .no => ARun P m r (st.put i.dst .no) K
   | _ => False
  | some (none,_) => False

def ADo (P:Program) (m:Nat) (st:St) (i:AIns) (K:St→List Nat×List Nat→Prop):Prop :=
 match i.op with
 | .call s f args => ∃ v hp',CallR P m s st.hp f (args.map st.get) v hp'∧K (St.put ⟨st.ts,hp'⟩ i.dst v) ((args.map st.get).flatMap slots ++ [s],wrC st.hp (args.map st.get) s)
 | .callv s x args => match st.get x with
  | .clo f caps => callable P f = true∧∃ v hp',CallR P m s st.hp f (args.map st.get ++ caps) v hp'∧K (St.put ⟨st.ts,hp'⟩ i.dst v) ((args.map st.get ++ caps).flatMap slots ++ [s],wrC st.hp (args.map st.get ++ caps) s)
  | .p (.fn f caps) => callable P f = true∧∃ v hp',CallR P m s st.hp f (args.map st.get ++ caps.map V.ipt) v hp'∧K (St.put ⟨st.ts,hp'⟩ i.dst v) ((args.map st.get ++ caps.map V.ipt).flatMap slots ++ [s],wrC st.hp (args.map st.get ++ caps.map V.ipt) s)
  | _ => False
 | .op op => ∃ v hp',astep st.hp st.get op = some (v,hp')∧K (St.put ⟨st.ts,hp'⟩ i.dst v) (touch st.get op,wrs st.get op)

def ARunD (P:Program) (m:Nat) (pairs:List (Nat×Nat)):List AIns→St→List (List Nat×List Nat)→(St→Prop)→Prop
 | [],st,F,K => okF F pairs = true∧K st
 | i :: r,st,F,K =>
  match i.guard with
  | none => ADo P m st i (fun st' fp => ARunD P m pairs r st' (F ++ [fp]) K)
  | some (some g,want) => match st.get (.t g) with
   | .p (.bool b) => if b = want then ADo P m st i (fun st' fp => ARunD P m pairs r st' (F ++ [fp]) K) else ARunD P m pairs r (st.put i.dst .no) (F ++ [([],[])]) K
   | .no => ARunD P m pairs r (st.put i.dst .no) (F ++ [([],[])]) K
   | _ => False
  | some (none,_) => False

inductive AEx where
 | normal
 | exit (id:Nat)
 | ret

def AEx.to:AEx→Exit
 | .normal => .normal
 | .exit id => .exit id
 | .ret => .ret

def Weak (m:Nat) (st st' : St):Prop := ∀ w0 S0 Jo D Φ S a w,Sim m w0 S0 Jo D Φ S st a w→∃ Φ',Sim m w0 S0 Jo D Φ' S st' a w

def WeakF (m:Nat) (st st' : St):Prop := ∀ w0 S0 Jo D Φ S a w,Sim m w0 S0 Jo D Φ S st a w→∃ Φ' S',Sim m w0 S0 Jo D Φ' S' st' a w
theorem Weak.toF {m:Nat} {st st' : St} (h:Weak m st st'):WeakF m st st' := fun w0 S0 Jo D Φ S a w hs => (h w0 S0 Jo D Φ S a w hs).imp fun Φ' h' => ⟨S,h'⟩
theorem weakF_frz {m:Nat} (st:St) {fz:List Nat} (hm:∀ t∈fz,m≤t):WeakF m st ⟨st.ts,frzAll st.hp fz⟩ := fun _ _ _ _ Φ S _ _ hs => by
 obtain ⟨S2,_,_,g⟩ := frzAll_sim fz S st hs hm
 exact ⟨Φ,S2,g⟩
theorem weakF_trans {m:Nat} {s1 s2 s3:St} (h1:WeakF m s1 s2) (h2:WeakF m s2 s3):WeakF m s1 s3 := fun w0 S0 Jo D Φ S a w h => by
 obtain ⟨Φ',S',h'⟩ := h1 w0 S0 Jo D Φ S a w h
 exact h2 w0 S0 Jo D Φ' S' a w h'

def AEx.seq (next:St→Prop) (Q:AEx→St→Prop):AEx→St→Prop
 | .normal,s => next s
 | e,s => Q e s
def AEx.blk (id:Nat) (Q:AEx→St→Prop):AEx→St→Prop
 | .exit j,s => if j = id then Q .normal s else Q (.exit j) s
 | e,s => Q e s

def Fw (ro:Option Nat):Fence := { Fence.wide with round := ro }

structure Keeps (S:Nat→Prop) (w w' : World):Prop where
 os:w'.os = w.os
 tape:w'.tape = w.tape
 output:w'.output = w.output
 size:w.heap.size≤w'.heap.size
 same:∀ b,S b→w'.heap[b]? = w.heap[b]?

def Iter (P:Program) (f:FuncId) (cap:List (List Pv)) (vs:List (List V)):Prop :=
 ∀ (w:World) (S:Nat→Prop) (f0:FuncId) (first caps:Array Value) (l:Nat),PRel S w (.fn f cap) (.func (.func f0) first caps)→(∀ b,S b→b < w.heap.size)→Glob S w →
 ∀ (J:Nat→(Nat→Prop)→World→Prop) (Jx:World→Prop),J 0 S w →
  (∀ (k:Nat) (S1:Nat→Prop) (W0 W1:World) (S2:Nat→Prop) (args:Array Value) (xs:List V),J k S1 W0→Fr (fun _ => False) W0 W1→(∀ b,S1 b→S2 b)→(∀ b,S2 b→S1 b ∨ W0.heap.size≤b)→(∀ b,S2 b→b < W1.heap.size) →
   vs[k]? = some xs→args.size = xs.length→(∀ i v,xs[i]? = some v→VRel Plc0 S2 W1 v (args.getD i undef)) →
   YieldAt (Fw none) 0 P l args W1 (fun e W2 => (e = .returned (.bool true)∧J (k + 1) S2 W2∧Keeps S2 W1 W2) ∨ (e = .returned (.bool false)∧Jx W2∧Keeps S2 W1 W2))) →
  CallsIn (Fw none) 0 P f0 (first ++ #[.func (.yield l) #[] #[]] ++ caps) w (fun e w' => (∃ v,e = .returned v)∧∃ W0,((∃ S',J vs.length S' W0) ∨ Jx W0)∧Fr (fun _ => False) W0 w')

def IterR (P:Program) (f0:FuncId) (first caps:Array Value) (C:Nat→Prop) (vs:List (List V)) (w1:World) (S:Nat→Prop):Prop :=
 ∀ (l:Nat) (w2:World) (J:Nat→(Nat→Prop)→World→Prop) (Jx:World→Prop),(∀ b,C b→w2.heap[b]? = w1.heap[b]?)→J 0 S w2→(∀ b,S b→b < w2.heap.size) →
  (∀ (k:Nat) (S1:Nat→Prop) (W0 W1:World) (S2:Nat→Prop) (args:Array Value) (xs:List V),J k S1 W0→Fr C W0 W1→(∀ b,S1 b→S2 b)→(∀ b,S2 b→S1 b ∨ W0.heap.size≤b)→(∀ b,S2 b→b < W1.heap.size) →
   vs[k]? = some xs→args.size = xs.length→(∀ i v,xs[i]? = some v→VRel Plc0 S2 W1 v (args.getD i undef)) →
   YieldAt (Fw none) 0 P l args W1 (fun e W2 => (e = .returned (.bool true)∧J (k + 1) S2 W2∧Keeps S2 W1 W2∧∀ b,C b→W2.heap[b]? = W1.heap[b]?) ∨ (e = .returned (.bool false)∧Jx W2∧Keeps S2 W1 W2))) →
  CallsIn (Fw none) 0 P f0 (first ++ #[.func (.yield l) #[] #[]] ++ caps) w2 (fun e w' => (∃ v,e = .returned v)∧∃ W0,((∃ S',J vs.length S' W0) ∨ Jx W0)∧Fr C W0 w')

def IterC (P:Program) (f:FuncId) (us:List V) (vs:List (List V)):Prop :=
 ∀ (w:World) (S:Nat→Prop) (vals:Array Value),vals.size = us.length→(∀ i v,us[i]? = some v→VRel Plc0 S w v (vals.getD i undef))→(∀ b,S b→b < w.heap.size)→Glob S w →
  CallsIn Fence.wide 0 P f vals w (fun e w1 => Fr (fun _ => False) w w1∧∃ (f0:FuncId) (first caps:Array Value) (C:Nat→Prop),e = .returned (.func (.func f0) first caps)∧callable0 P f0 = true ∧
   (∀ b,C b→w.heap.size≤b∧∃ arr ty fz,w1.heap[b]? = some (.cells arr ty fz))∧IterR P f0 first caps C vs w1 S)
def maskT (bs:List Nat) (ts:List V):List V := bs.foldl (fun ts k => ts.set k .und) ts
def St.mask (bs:List Nat) (st:St):St := ⟨maskT bs st.ts,st.hp⟩
def putsT:List (Nat×V)→List V→List V
 | [],ts => ts
 | (p,v) :: r,ts => putsT r (ts.set p v)
def St.puts (ps:List Nat) (xs:List V) (st:St):St := ⟨putsT (ps.zip xs) st.ts,st.hp⟩

def RngK (B:List V→St→(AEx→St→Prop)→Prop) (Q:AEx→St→Prop):List (List V)→St→Prop
 | [],st => Q .normal st
 | xs :: r,st => B xs st (fun e s => match e with
  | .normal => RngK B Q r s
  | .exit id => Q (.exit id) s
  | .ret => Q .ret s)

def AWp (P:Program) (m:Nat):ACode→(AEx→St→Prop)→St→Prop
 | .skip,Q,st => Q .normal st
 | .reg ops,Q,st => ARun P m ops st (Q .normal)
 | .regd ops pairs,Q,st => ∃ fz:List Nat,(∀ t∈fz,m≤t)∧ARunD P m pairs ops ⟨st.ts,frzAll st.hp fz⟩ [] (Q .normal)
 | .seq x y,Q,st => AWp P m x (AEx.seq (AWp P m y Q) Q) st
 | .cond c x y,Q,st => match st.get c with
  | .p (.bool b) => if b = true then AWp P m x Q st else AWp P m y Q st
  | .ub n => (n = 0→AWp P m x Q st)∧AWp P m y Q st
  | _ => False
 | .block id x,Q,st => AWp P m x (AEx.blk id Q) st
 | .loop x,Q,st => ∃ (I:St→Prop) (μ:St→Nat),(∃ s0,WeakF m st s0∧I s0)∧∀ s,I s→AWp P m x (AEx.seq (fun s' => ∃ s1,Weak m s' s1∧I s1∧μ s1 < μ s) Q) s
 | .exit id,Q,st => Q (.exit id) st
 | .ret,Q,st => Q .ret st
 | .rng g ps bs x y,Q,st => ∃ s0,Weak m st s0∧∃ f cap vs,callI P f = true∧s0.get g = .p (.fn f cap)∧Iter P f cap vs ∧
   RngK (fun xs s K => xs.length = ps.length∧AWp P m x (AEx.seq (AWp P m y (fun e s' => ∃ s1,Weak m (s'.mask bs) s1∧K e s1)) (fun _ _ => False)) (s.puts ps xs)) Q vs s0
 | .rngc f args t ps bs x y,Q,st => t < st.ts.length∧∃ xs vs,optAll (pur st.hp) (args.map st.get) = some xs∧(args.map st.get).flatMap slots = []∧IterC P f xs vs∧∃ s0,Weak m (St.put st (some t) .und) s0 ∧
   RngK (fun xs s K => xs.length = ps.length∧AWp P m x (AEx.seq (AWp P m y (fun e s' => ∃ s1,Weak m (s'.mask bs) s1∧K e s1)) (fun _ _ => False)) (s.puts ps xs)) Q vs s0

def isSeqF (P:Program) (f:FuncId):Bool := match P.funcs[f]? with
 | some fn => fn.name == "strings.SplitSeq"
 | none => false
def fuse (P:Program) (a b:ACode):ACode := match a,b with
 | .reg il,.block bid (.rng (.t t) ps bs x y) => match il.getLast? with
  | some ⟨some t',none,.call _ f args⟩ => match Nat.beq t t' && isSeqF P f with
   | true => .seq (.reg il.dropLast) (.block bid (.rngc f args t ps bs x y))
   | false => .seq a b
  | _ => .seq a b
 | _,_ => .seq a b

def cReg (P:Program) (sites:List Nat) (ops:Array Oper):Option (List AIns) := optAll (cIns P sites ops) ops.toList

def dstsOf:Code→List Nat
 | .region _ ops _ => ops.toList.filterMap (·.dst)
 | .seq a b => dstsOf a ++ dstsOf b
 | .cond _ a b => dstsOf a ++ dstsOf b
 | .block _ a => dstsOf a
 | .loop a => dstsOf a
 | .rangeFunc _ ps a b => ps.toList ++ (dstsOf a ++ dstsOf b)
 | _ => []

def cCode (P:Program) (sites:List Nat):Bool→Code→Option ACode
 | _,.skip => some .skip
 | _,.region _ ops false => (cReg P sites ops).map .reg
 | _,.region _ ops true => (cRegD P sites ops).map fun q => .regd q.1 q.2
 | rf,.seq a b => match cCode P sites rf a,cCode P sites rf b with
  | some x,some y => some (fuse P x y)
  | _,_ => none
 | rf,.cond c a b => match cCode P sites rf a,cCode P sites rf b with
  | some x,some y => some (.cond (cO c) x y)
  | _,_ => none
 | rf,.block id a => (cCode P sites rf a).map (.block id ·)
 | rf,.loop a => (cCode P sites rf a).map .loop
 | _,.exit id => some (.exit id)
 | _,.ret => some .ret
 | true,.rangeFunc g ps a b => match cCode P sites false a,cCode P sites false b with
  | some x,some y => some (.rng (cG g) ps.toList (ps.toList ++ (dstsOf a ++ dstsOf b)) x y)
  | _,_ => none
 | _,_ => none

section
variable {P:Program} {m:Nat} {w0:World} {S0 Jo:Nat→Prop} {D:Bs}

def SimE (m:Nat) (w0:World) (S0 Jo:Nat→Prop) (D:Bs) (st:St) (a:Act) (w:World):Prop := ∃ Φ S,Sim m w0 S0 Jo D Φ S st a w

omit [Laid] in
theorem callFunc_run0 {f:FuncId} (h:callable0 P f = true) (args:Array Value) (w:World):(callFunc f args).run P w = .ok (.enter f args) w := by
 unfold callable0 at h
 split at h
 ·rename_i fn hf
  simp only [Bool.and_eq_true,Bool.not_eq_true'] at h
  obtain ⟨h1,h2⟩ := h
  have hn:fn.body.isNone = false := by cases hb:fn.body <;> simp_all
  simp only [callFunc,Sem.run_bind,run_program,Result.andThen_ok,hf,h2,hn,Bool.false_eq_true,if_false]
  rfl
 ·cases h

omit [Laid] in
theorem callFunc_run {f:FuncId} (h:callable P f = true) (args:Array Value) (w:World):(callFunc f args).run P w = .ok (.enter f args) w := by
 simp only [callable,Bool.and_eq_true] at h
 exact callFunc_run0 h.2 args w
omit [Laid] in
theorem callable_lt {f:Nat} (h:callable P f = true):f < 1000000000 := by
 simp only [callable,Bool.and_eq_true] at h
 exact Nat.le_of_ble_eq_true h.1
omit [Laid] in
theorem callI_is {f f0:Nat} {S:Nat→Prop} {w:World} {cap:List (List Pv)} {first caps:Array Value} (h:callI P f = true) (hr:PRel S w (.fn f cap) (.func (.func f0) first caps)):callable0 P f0 = true := by
 unfold callI at h
 cases hr with
 | fn _ _ _ hf =>
  have:Nat.blt f 1000000000 = true := Nat.ble_eq_true_of_le hf
  rw [this] at h; exact h
 | bnd _ _ _ arr hg =>
  have:Nat.blt f 1000000000 = false := by
   cases e:Nat.blt f 1000000000 with
   | false => rfl
   | true => have := Nat.le_of_ble_eq_true e; have := bm_is hg; omega
  rw [this] at h
  have e:f - 1000000000 = f0 := by have := bm_is hg; omega
  rw [cond_false,e] at h; exact h

omit [Laid] in
theorem callsIn_fw {ro:Option Nat} {f:FuncId} {args:Array Value} {w:World} {R:Ending→World→Prop} (h:CallsIn Fence.wide 0 P f args w R):CallsIn (Fw ro) 0 P f args w R := h

theorem args_rel {Φ:Plc} {S:Nat→Prop} {st:St} {a:Act} {w:World} (h:Sim m w0 S0 Jo D Φ S st a w) (args:Array Operand) :
  (args.map a.eval).size = ((args.toList.map cO).map st.get).length∧∀ i v,((args.toList.map cO).map st.get)[i]? = some v→VRel Φ S w v ((args.map a.eval).getD i undef) := by
 refine ⟨by simp,fun i v hi => ?_⟩
 rw [List.map_map,List.getElem?_map] at hi
 cases e:args.toList[i]? with
 | none => simp [e] at hi
 | some o =>
  simp only [e,Option.map_some,Function.comp,sJ] at hi
  subst hi
  have:(args.map a.eval).getD i undef = a.eval o := by rw [getD_of_list]; simp [e]
  rw [this]; exact rel_get h o

omit [Laid] in
theorem args_append {Φ:Plc} {S:Nat→Prop} {w:World} {A B:Array Value} {xs ys:List V} (h1:A.size = xs.length∧∀ i v,xs[i]? = some v→VRel Φ S w v (A.getD i undef)) (h2:B.size = ys.length∧∀ i v,ys[i]? = some v→VRel Φ S w v (B.getD i undef)) :
  (A ++ B).size = (xs ++ ys).length∧∀ i v,(xs ++ ys)[i]? = some v→VRel Φ S w v ((A ++ B).getD i undef) := by
 refine ⟨by simp [h1.1,h2.1],fun i v hi => ?_⟩
 rw [getD_of_list,Array.toList_append]
 rw [List.getElem?_append] at hi ⊢
 split at hi
 ·rename_i hlt
  rw [if_pos (by simpa [h1.1] using hlt)]
  have := h1.2 i v hi
  rwa [getD_of_list] at this
 ·rename_i hlt
  rw [if_neg (by simpa [h1.1] using hlt)]
  have := h2.2 _ v hi
  rw [getD_of_list] at this
  simpa [h1.1] using this

theorem step_sound {ro:Option Nat} {st:St} {a:Act} {w:World} (h:SimE m w0 S0 Jo D st a w) {sites:List Nat} {ops:Array Oper} {o:Oper} {i:AIns} (hc:cIns P sites ops o = some i) (hd:∀ k,o.dst = some k→¬ D.keep k) {K:St→Prop} (hs:AStep P m st i K)
  {next:Act→World→Prop} (hK:∀ st a w,K st→SimE m w0 S0 Jo D st a w→next a w) (Q:Exit→Act→World→Prop):o.wpIn (Fw ro) 0 P a w next Q := by
 have hd0 := hd
 obtain ⟨Φ,S,h⟩ := h
 have plain:∀ op v hp',cOp P (match o.dst with | some d => sites.idxOf d | none => 0) (ownsIt P ops o) o = some op→astep st.hp st.get op = some (v,hp')→K (St.put ⟨st.ts,hp'⟩ o.dst v)→o.uponIn (Fw ro) 0 P a next Q ((o.semAt (Fw ro).round a.eval).run P w) := by
  intro op v hp' hop h1 h2
  have hd := op_sound h (fun x => rel_get h x) (fun _ => rfl) hop h1
  obtain ⟨nx,x,w',Φ',S',g1,g2,g3,g4⟩ := hd
  rw [Oper.semAt_eq _ _ _ (by
   intro c e
   unfold cOp at hop
   rw [e] at hop
   simp only [sJ] at hop
   subst hop
   have hn:astep st.hp st.get badOp = none := rfl
   rw [hn] at h1
   cases h1),g1]
  have h3 := hK _ _ _ h2 ⟨Φ',S',g3.put (d := o.dst) hd0 g4⟩
  rcases g2 with rfl | ⟨rfl,rfl⟩
  ·exact h3
  ·exact h3
 have enter:∀ (f:FuncId) (args:List V) (vals:Array Value) (s:Nat) v hp',(execOp a.eval o).run P w = .ok (.enter f vals) w→(vals.size = args.length∧∀ i v,args[i]? = some v→VRel Φ S w v (vals.getD i undef)) →
   CallR P m s st.hp f args v hp'→K (St.put ⟨st.ts,hp'⟩ o.dst v)→(∀ c,o.op ≠ .defer c)→o.uponIn (Fw ro) 0 P a next Q ((o.semAt (Fw ro).round a.eval).run P w) := by
  intro f args vals s v hp' h1 h2 h3 h4 h5
  rw [Oper.semAt_eq _ _ _ h5,h1]
  rw [Oper.uponIn_enter]
  refine ⟨fun e => by simp [Fw,Fence.wide] at e,?_⟩
  refine CallsIn.mono (callsIn_fw (call_sound h h2.1 h2.2 h3)) ?_
  rintro e w' ⟨x,Φ',S',rfl,k1,k2⟩
  exact hK _ _ _ h4 ⟨Φ',S',k1.put (d := o.dst) hd0 k2⟩
 refine ⟨fun _ _ => trivial,?_⟩
 unfold cIns at hc
 split at hc
 ·rename_i ai hai
  simp only [sJ] at hc
  subst hc
  have plain' : ∀ op,(cOp P (match o.dst with | some d => sites.idxOf d | none => 0) (ownsIt P ops o) o).map AI.op = some ai→ai = .op op→o.uponIn (Fw ro) 0 P a next Q ((o.semAt (Fw ro).round a.eval).run P w) := by
   intro op h1 h2
   subst h2
   simp only [Option.map_eq_some_iff,AI.op.injEq,exists_eq_right] at h1
   simp only [AStep] at hs
   obtain ⟨v,hp',h3,h4⟩ := hs
   exact plain op v hp' h1 h3 h4
  have isop:(cOp P (match o.dst with | some d => sites.idxOf d | none => 0) (ownsIt P ops o) o).map AI.op = some ai→∃ op,ai = .op op := by
   intro h1
   simp only [Option.map_eq_some_iff] at h1
   obtain ⟨op,_,rfl⟩ := h1
   exact ⟨op,rfl⟩
  unfold cAI at hai
  split at hai
  ·rename_i c hop
   have hnd:∀ c',o.op ≠ .defer c' := by intro c' e; rw [hop] at e; cases e
   have hex:execOp a.eval o = (do let d ← resolve a.eval c o.type; invoke d.target d.args) := by unfold execOp; rw [hop]
   split at hai
   ·rename_i f hcal
    split at hai
    ·rename_i hcl
     simp only [sJ] at hai
     subst hai
     simp only [AStep] at hs
     obtain ⟨v,hp',h1,h2⟩ := hs
     refine enter f _ (c.args.map a.eval) _ v hp' ?_ (args_rel h c.args) h1 h2 hnd
     rw [hex]
     simp [resolve,hcal,Deferred.ofValue,Act.eval,invoke,callFunc_run hcl]
    ·obtain ⟨op,rfl⟩ := isop hai
     exact plain' op hai rfl
   ·rename_i x _ hcal
    simp only [sJ] at hai
    subst hai
    simp only [AStep] at hs
    have gx := rel_get h x
    split at hs
    ·rename_i f caps hx
     obtain ⟨hcl,v,hp',h1,h2⟩ := hs
     rw [hx] at gx
     cases hev:a.eval x with
     | func fn first captured =>
      rw [hev] at gx
      cases gx with
      | clo _ _ arr _ hn hcap =>
       refine enter f _ (c.args.map a.eval ++ captured) _ v hp' ?_ (args_append (args_rel h c.args) ⟨hn,hcap⟩) h1 h2 hnd
       rw [hex]
       simp [resolve,hcal,Deferred.ofValue,hev,invoke,callFunc_run hcl]
     | _ => rw [hev] at gx; cases gx
    ·rename_i f caps hx
     obtain ⟨hcl,v,hp',h1,h2⟩ := hs
     rw [hx] at gx
     cases gx with
     | p _ _ gx =>
      cases hev:a.eval x with
      | func fn first captured =>
       rw [hev] at gx
       cases gx with
       | bnd _ _ _ arr hg => exact absurd (callable_lt hcl) (by have := bm_is hg; omega)
       | fn _ _ arr _ b o' cell hn hs' hp h1' h2' =>
        refine enter f _ (c.args.map a.eval ++ captured) _ v hp' ?_ (args_append (args_rel h c.args) ⟨by simp [hn],fun i u hu => ?_⟩) h1 h2 hnd
        ·rw [hex]
         simp [resolve,hcal,Deferred.ofValue,hev,invoke,callFunc_run hcl]
        ·rw [List.getElem?_map] at hu
         cases he:caps[i]? with
         | none => simp [he] at hu
         | some e =>
          simp only [he,Option.map_some,sJ] at hu; subst hu
          rw [hp i e he]
          exact .ipt e (b i) (o' i) (cell i) (hs' i e he) (fun j x hx => h1' i j e x he hx) (fun j x hx => h2' i j e x he hx)
      | _ => rw [hev] at gx; cases gx
    ·cases hs
   ·obtain ⟨op,hopp⟩ := isop hai
    exact plain' op hai hopp
  ·obtain ⟨op,hopp⟩ := isop hai
   exact plain' op hai hopp
 ·cases hc

theorem no_wanted {st:St} {a:Act} {w:World} (h:SimE m w0 S0 Jo D st a w) {ops:Array Oper} {o:Oper} {gi d:Nat} {want:Bool} (hg:o.guard = some (gi,want)) (hd:(ops[gi]?).bind (·.dst) = some d) (hb:st.get (.t d) = .no):Region.wanted o (yielded ops a.tmps) = false := by
 have hval:a.tmps.getD d undef = undef := by
  obtain ⟨Φ,S,hsim⟩ := h
  simp only [St.get] at hb
  cases ht:st.ts[d]? with
  | none => simp [ht] at hb
  | some v =>
   simp only [ht,Option.getD_some] at hb
   subst hb
   have := hsim.ts d _ ht
   generalize a.tmps.getD d undef = u at this ⊢
   cases this; rfl
 have hy:yielded ops a.tmps gi = none := by
  simp only [yielded,hd,Option.bind_some]
  cases e:a.tmps[d]? with
  | none => rfl
  | some u =>
   have:u = undef := by
    obtain ⟨h1,h2⟩ := Array.getElem?_eq_some_iff.1 e
    rw [← hval,← h2]; simp [Array.getD,h1]
   subst this
   rfl
 simp only [Region.wanted,hg,hy]
 cases want <;> rfl

theorem run_sound {ro:Option Nat} {sites:List Nat} {ops:Array Oper} {Q:Exit→Act→World→Prop} {K:St→Prop} (hK:∀ st a w,K st→SimE m w0 S0 Jo D st a w→Q .normal a w) :
  ∀ (l:List Oper) (il:List AIns) (st:St) (a:Act) (w:World),(∀ o∈l,∀ k,o.dst = some k→¬ D.keep k)→optAll (cIns P sites ops) l = some il→SimE m w0 S0 Jo D st a w→ARun P m il st K→wpListIn (Fw ro) 0 P ops Q l a w
 | [],il,st,a,w,_,hc,h,hr => by
  simp only [optAll,sJ] at hc; subst hc
  exact hK st a w hr h
 | o :: l,il,st,a,w,hD,hc,h,hr => by
  simp only [optAll] at hc
  split at hc
  ·rename_i i is hi his
   simp only [sJ] at hc; subst hc
   have next:∀ st a w,ARun P m is st K→SimE m w0 S0 Jo D st a w→wpListIn (Fw ro) 0 P ops Q l a w := fun st a w h1 h2 => run_sound hK l is st a w (fun o ho => hD o (List.mem_cons_of_mem _ ho)) his h2 h1
   have hi' := hi
   unfold cIns at hi'
   split at hi'
   ·rename_i ai _
    simp only [sJ] at hi'
    have hguard:i.guard = o.guard.map fun g => ((ops[g.1]?).bind (·.dst),g.2) := by rw [← hi']
    have hdst:i.dst = o.dst := by rw [← hi']
    simp only [ARun] at hr
    simp only [wpListIn]
    cases hg:o.guard with
    | none =>
     rw [hg] at hguard
     simp only [Option.map_none] at hguard
     rw [hguard] at hr
     rw [if_pos (by simp [Region.wanted,hg])]
     exact step_sound h hi (hD o (List.mem_cons_self)) hr next Q
    | some g =>
     obtain ⟨gi,want⟩ := g
     rw [hg] at hguard
     simp only [Option.map_some] at hguard
     rw [hguard] at hr
     cases hd:(ops[gi]?).bind (·.dst) with
     | none => rw [hd] at hr; exact hr.elim
     | some d =>
      rw [hd] at hr
      simp only at hr
      split at hr
      ·rename_i b hb
       have hval:a.tmps[d]? = some (.bool b) := by
        obtain ⟨Φ,S,hsim⟩ := h
        simp only [St.get] at hb
        cases ht:st.ts[d]? with
        | none => simp [ht] at hb
        | some v =>
         simp only [ht,Option.getD_some] at hb
         subst hb
         have h1 := inv_bool (hsim.ts d _ ht)
         have hlt:d < a.tmps.size := by rw [hsim.size]; exact (List.getElem?_eq_some_iff.1 ht).1
         have e2:a.tmps.getD d undef = a.tmps[d] := by simp [Array.getD,hlt]
         rw [e2] at h1
         simp [hlt,h1]
       have hy:yielded ops a.tmps gi = some b := by simp [yielded,hd,hval]
       have hw:Region.wanted o (yielded ops a.tmps) = decide (b = want) := by
        simp only [Region.wanted,hg,hy]
        cases b <;> cases want <;> rfl
       rw [hw]
       split at hr
       ·rename_i e
        rw [if_pos (by simp [e])]
        exact step_sound h hi (hD o (List.mem_cons_self)) hr next Q
       ·rename_i e
        rw [if_neg (by simp [e])]
        refine ⟨fun _ _ => trivial,next _ _ _ hr ?_⟩
        obtain ⟨Φ,S,hsim⟩ := h
        rw [hdst]
        exact ⟨Φ,S,hsim.put (hD o (List.mem_cons_self)) .no⟩
      ·rename_i hb
       rw [no_wanted h hg hd hb,if_neg (by simp)]
       refine ⟨fun _ _ => trivial,next _ _ _ hr ?_⟩
       obtain ⟨Φ,S,hsim⟩ := h
       rw [hdst]
       exact ⟨Φ,S,hsim.put (hD o (List.mem_cons_self)) .no⟩
      ·exact hr.elim
   ·cases hi'
  ·cases hc

theorem do_step {st:St} {i:AIns} {K:St→List Nat×List Nat→Prop} (h:ADo P m st i K):∃ T W v hp',actV P m st i T W v hp'∧K (St.put ⟨st.ts,hp'⟩ i.dst v) (T,W) := by
 unfold ADo at h
 split at h
 ·rename_i s f args hop
  obtain ⟨v,hp',h1,h2⟩ := h
  exact ⟨_,_,v,hp',by unfold actV; rw [hop]; exact ⟨h1,rfl,rfl⟩,h2⟩
 ·rename_i s x args hop
  split at h
  ·rename_i f caps hx
   obtain ⟨h0,v,hp',h1,h2⟩ := h
   exact ⟨_,_,v,hp',by unfold actV; rw [hop]; dsimp only; rw [hx]; exact ⟨h0,h1,rfl,rfl⟩,h2⟩
  ·rename_i f caps hx
   obtain ⟨h0,v,hp',h1,h2⟩ := h
   exact ⟨_,_,v,hp',by unfold actV; rw [hop]; dsimp only; rw [hx]; exact ⟨h0,h1,rfl,rfl⟩,h2⟩
  ·exact h.elim
 ·rename_i op hop
  obtain ⟨v,hp',h1,h2⟩ := h
  exact ⟨_,_,v,hp',by unfold actV; rw [hop]; exact ⟨h1,rfl,rfl⟩,h2⟩

theorem act_step {st:St} {i:AIns} {T W:List Nat} {v:V} {hp' : List Blk} (h:actV P m st i T W v hp'):AStep P m st i (fun s => s = St.put ⟨st.ts,hp'⟩ i.dst v) := by
 unfold actV at h
 unfold AStep
 split at h
 ·rename_i op hop
  rw [hop]; exact ⟨v,hp',h.1,rfl⟩
 ·rename_i s f args hop
  rw [hop]; exact ⟨v,hp',h.1,rfl⟩
 ·rename_i s x args hop
  rw [hop]; dsimp only
  split at h
  ·rename_i f caps hx
   rw [hx]; exact ⟨h.1,v,hp',h.2.1,rfl⟩
  ·rename_i f caps hx
   rw [hx]; exact ⟨h.1,v,hp',h.2.1,rfl⟩
  ·exact h.elim

theorem runD_run {il:List AIns} {pairs:List (Nat×Nat)} {K:St→Prop}:∀ (l:List AIns) (k:Nat) (st:St) (F:List (List Nat×List Nat)),F.length = k→(∀ j,l[j]? = il[k + j]?)→ARunD P m pairs l st F K →
  ∃ F' st',(∃ G,F' = F ++ G)∧okF F' pairs = true∧K st'∧Run P m il F' (List.range' k l.length) st st'
 | [],k,st,F,_,_,h => ⟨F,st,⟨[],by simp⟩,h.1,h.2,rfl⟩
 | i :: l,k,st,F,hF,hl,h => by
  have hi:il[k]? = some i := by simpa using (hl 0).symm
  have hl' : ∀ j,l[j]? = il[k + 1 + j]? := fun j => by have := hl (j + 1); simpa [Nat.add_assoc,Nat.add_comm 1 j] using this
  have go:∀ T W v hp',stepV P m st i T W v hp'→ARunD P m pairs l (St.put ⟨st.ts,hp'⟩ i.dst v) (F ++ [(T,W)]) K →
    ∃ F' st',(∃ G,F' = F ++ G)∧okF F' pairs = true∧K st'∧Run P m il F' (List.range' k (i :: l).length) st st' := by
   intro T W v hp' h1 h2
   obtain ⟨F',st',⟨G,rfl⟩,g2,g3,g4⟩ := runD_run l (k + 1) _ _ (by simp [hF]) hl' h2
   refine ⟨F ++ [(T,W)] ++ G,st',⟨[(T,W)] ++ G,by simp⟩,g2,g3,?_⟩
   rw [List.length_cons,List.range'_succ]
   have hk:(F ++ [(T,W)] ++ G).getD k ([],[]) = (T,W) := by
    rw [List.append_assoc,List.getD,List.getElem?_append_right (by omega),hF]; simp
   exact ⟨i,v,hp',hi,by rw [hk]; exact h1,g4⟩
  simp only [ARunD] at h
  split at h
  ·rename_i hg
   obtain ⟨T,W,v,hp',h1,h2⟩ := do_step h
   exact go T W v hp' (by unfold stepV; rw [hg]; exact h1) h2
  ·rename_i g want hg
   split at h
   ·rename_i b hb
    split at h
    ·rename_i e
     obtain ⟨T,W,v,hp',h1,h2⟩ := do_step h
     exact go T W v hp' (by unfold stepV; rw [hg]; exact .inl ⟨b,hb,by rw [if_pos e]; exact h1⟩) h2
    ·rename_i e
     refine go [] [] .no st.hp (by unfold stepV; rw [hg]; exact .inl ⟨b,hb,by rw [if_neg e]; exact ⟨rfl,rfl,rfl,rfl⟩⟩) ?_
     have:(St.put ⟨st.ts,st.hp⟩ i.dst .no) = st.put i.dst .no := rfl
     rw [this]; exact h
   ·rename_i hb
    refine go [] [] .no st.hp (by unfold stepV; rw [hg]; exact .inr ⟨hb,rfl,rfl,rfl,rfl⟩) ?_
    have:(St.put ⟨st.ts,st.hp⟩ i.dst .no) = st.put i.dst .no := rfl
    rw [this]; exact h
   ·exact h.elim
  ·exact h.elim

theorem ins_sound {ro:Option Nat} {st:St} {a:Act} {w:World} (h:SimE m w0 S0 Jo D st a w) {sites:List Nat} {ops:Array Oper} {o:Oper} {i:AIns} (hc:cIns P sites ops o = some i) (hdd:∀ k,o.dst = some k→¬ D.keep k) {T W:List Nat} {v:V} {hp' : List Blk}
  (hs:stepV P m st i T W v hp') {next:Act→World→Prop} (hK:∀ a w,SimE m w0 S0 Jo D (St.put ⟨st.ts,hp'⟩ i.dst v) a w→next a w) (Q:Exit→Act→World→Prop) :
  if Region.wanted o (yielded ops a.tmps) = true then o.wpIn (Fw ro) 0 P a w next Q else (∀ f,o.about P w a.eval = some f→(Fw ro).fn f)∧next (a.put o.dst undef) w := by
 have hc' := hc
 unfold cIns at hc'
 split at hc'
 ·rename_i ai _
  simp only [sJ] at hc'
  have hguard:i.guard = o.guard.map fun g => ((ops[g.1]?).bind (·.dst),g.2) := by rw [← hc']
  have hdst:i.dst = o.dst := by rw [← hc']
  have act:actV P m st i T W v hp'→o.wpIn (Fw ro) 0 P a w next Q := fun h1 => step_sound h hc hdd (act_step h1) (fun s a w e hsim => by subst e; exact hK a w hsim) Q
  unfold stepV at hs
  cases hg:o.guard with
  | none =>
   rw [hg] at hguard
   simp only [Option.map_none] at hguard
   rw [hguard] at hs
   rw [if_pos (by simp [Region.wanted,hg])]
   exact act hs
  | some g =>
   obtain ⟨gi,want⟩ := g
   rw [hg] at hguard
   simp only [Option.map_some] at hguard
   rw [hguard] at hs
   cases hd:(ops[gi]?).bind (·.dst) with
   | none => rw [hd] at hs; exact hs.elim
   | some d =>
    rw [hd] at hs
    rcases hs with ⟨b,hb,hs⟩ | ⟨hb,rfl,rfl,_,_⟩
    rotate_left
    ·rw [no_wanted h hg hd hb,if_neg (by simp)]
     refine ⟨fun _ _ => trivial,hK _ _ ?_⟩
     obtain ⟨Φ,S,hsim⟩ := h
     rw [hdst]
     exact ⟨Φ,S,hsim.put hdd .no⟩
    have hval:a.tmps[d]? = some (.bool b) := by
     obtain ⟨Φ,S,hsim⟩ := h
     simp only [St.get] at hb
     cases ht:st.ts[d]? with
     | none => simp [ht] at hb
     | some v =>
      simp only [ht,Option.getD_some] at hb
      subst hb
      have h1 := inv_bool (hsim.ts d _ ht)
      have hlt:d < a.tmps.size := by rw [hsim.size]; exact (List.getElem?_eq_some_iff.1 ht).1
      have e2:a.tmps.getD d undef = a.tmps[d] := by simp [Array.getD,hlt]
      rw [e2] at h1
      simp [hlt,h1]
    have hy:yielded ops a.tmps gi = some b := by simp [yielded,hd,hval]
    have hw:Region.wanted o (yielded ops a.tmps) = decide (b = want) := by
     simp only [Region.wanted,hg,hy]
     cases b <;> cases want <;> rfl
    rw [hw]
    split at hs
    ·rename_i e
     rw [if_pos (by simp [e])]
     exact act hs
    ·rename_i e
     obtain ⟨rfl,rfl,_,_⟩ := hs
     rw [if_neg (by simp [e])]
     refine ⟨fun _ _ => trivial,hK _ _ ?_⟩
     obtain ⟨Φ,S,hsim⟩ := h
     rw [hdst]
     exact ⟨Φ,S,hsim.put hdd .no⟩
 ·cases hc'

theorem draw_any {ro:Option Nat} {sites:List Nat} {ops:Array Oper} {il:List AIns} (hil:optAll (cIns P sites ops) ops.toList = some il) (hD:∀ o∈ops.toList,∀ k,o.dst = some k→¬ D.keep k) {F:List (List Nat×List Nat)} {st' : St} {Q:Exit→Act→World→Prop}
  (hQ:∀ a w,SimE m w0 S0 Jo D st' a w→Q .normal a w) (hlow:∀ i o,ops[i]? = some o→∀ p∈predsOf o,p < i)
  (hind:∀ x y,x < y→y < ops.size→((clos (ops.toList.map predsOf) []).getD y 0).testBit x = true ∨ Indep il F x y) :
  ∀ (fuel:Nat) (listed:Array Bool) (st:St) (a:Act) (w:World),listed.size = ops.size→(∀ i o,ops[i]? = some o→listed.getD i false = true→∀ p∈predsOf o,listed.getD p false = true) →
   ((List.range ops.size).filter fun i => !listed.getD i true).length≤fuel→SimE m w0 S0 Jo D st a w→Run P m il F ((List.range ops.size).filter fun i => !listed.getD i true) st st'→wpAnyIn (Fw ro) 0 P .any ops Q fuel listed a w := by
 have hready:∀ listed:Array Bool,listed.size = ops.size→Region.ready .any ops listed = []→(List.range ops.size).filter (fun i => !listed.getD i true) = [] := by
  intro listed hsz hr
  cases hR:(List.range ops.size).filter (fun i => !listed.getD i true) with
  | nil => rfl
  | cons i r =>
   exfalso
   have hmem:i∈(List.range ops.size).filter (fun i => !listed.getD i true) := by rw [hR]; simp
   rw [List.mem_filter,List.mem_range] at hmem
   have hall:∀ j,j < i→listed.getD j true = true := by
    intro j hj
    cases hb:listed.getD j true with
    | true => rfl
    | false =>
     exfalso
     have hjm:j∈(List.range ops.size).filter (fun i => !listed.getD i true) := by
      rw [List.mem_filter,List.mem_range]; exact ⟨by omega,by simp [hb]⟩
     have hs:((List.range ops.size).filter (fun i => !listed.getD i true)).Pairwise (· < ·) := List.Pairwise.filter _ List.pairwise_lt_range
     rw [hR] at hjm hs
     rcases List.mem_cons.1 hjm with rfl | hjm
     ·omega
     ·have := (List.pairwise_cons.1 hs).1 j hjm; omega
   have hii:i∈Region.ready .any ops listed := by
    rw [mem_ready]
    refine ⟨by simpa using hmem.2,ops[i],by simp [hmem.1],?_⟩
    intro e he hb
    have hp:e.on∈predsOf ops[i] := by
     simp only [predsOf,List.mem_filterMap]
     exact ⟨e,by simpa using he,by simp [hb]⟩
    have hlt := hlow i ops[i] (by simp [hmem.1]) _ hp
    have := hall _ hlt
    have hlt2:e.on < listed.size := by omega
    simpa [Array.getD,hlt2] using this
   rw [hr] at hii; cases hii
 intro fuel
 induction fuel with
 | zero =>
  intro listed st a w hsz hcl hlen hsim hrun
  have hnil:(List.range ops.size).filter (fun i => !listed.getD i true) = [] := List.eq_nil_of_length_eq_zero (by omega)
  have hrd:Region.ready .any ops listed = [] := by
   cases hr:Region.ready .any ops listed with
   | nil => rfl
   | cons i r =>
    exfalso
    have:i∈Region.ready .any ops listed := by rw [hr]; simp
    rw [mem_ready] at this
    obtain ⟨h1,o,h2,_⟩ := this
    have hmem:i∈(List.range ops.size).filter (fun i => !listed.getD i true) := by
     rw [List.mem_filter,List.mem_range]; exact ⟨(Array.getElem?_eq_some_iff.1 h2).1,by simp [h1]⟩
    rw [hnil] at hmem; cases hmem
  rw [hnil] at hrun
  have:st' = st := hrun
  subst this
  exact ⟨hrd,hQ a w hsim⟩
 | succ fuel ih =>
  intro listed st a w hsz hcl hlen hsim hrun
  refine ⟨fun hr => ?_,fun i hi => ?_⟩
  ·rw [hready listed hsz hr] at hrun
   have:st' = st := hrun
   subst this
   exact hQ a w hsim
  ·rw [mem_ready] at hi
   obtain ⟨h1,o,ho,hpre⟩ := hi
   have hilt:i < ops.size := (Array.getElem?_eq_some_iff.1 ho).1
   have hmem:i∈(List.range ops.size).filter (fun i => !listed.getD i true) := by
    rw [List.mem_filter,List.mem_range]; exact ⟨hilt,by simp [h1]⟩
   obtain ⟨pre,post,hsplit⟩ := List.append_of_mem hmem
   have hsorted:((List.range ops.size).filter (fun i => !listed.getD i true)).Pairwise (· < ·) := List.Pairwise.filter _ List.pairwise_lt_range
   rw [hsplit] at hrun hsorted hlen
   have hpreds:∀ p∈predsOf o,listed.getD p false = true := by
    intro p hp
    simp only [predsOf,List.mem_filterMap] at hp
    obtain ⟨e,he,hp⟩ := hp
    split at hp
    ·rename_i hb
     simp only [sJ] at hp; subst hp
     exact hpre e (by simpa using he) hb
    ·cases hp
   have hI:∀ j∈pre,Indep il F j i := by
    intro j hj
    have hji:j < i := (List.pairwise_append.1 hsorted).2.2 j hj i (by simp)
    rcases hind j i hji hilt with hb | hb
    ·exfalso
     have hall := clos_spec (fun k => listed.getD k false = true) (ops.toList.map predsOf) (by
      intro k ps hk hps p hp
      rw [List.getElem?_map] at hps
      cases hok:ops.toList[k]? with
      | none => simp [hok] at hps
      | some ok =>
       simp only [hok,Option.map_some,sJ] at hps; subst hps
       exact hcl k ok (by simpa using hok) hk p hp) (ops.toList.map predsOf) [] [] rfl rfl (by simp)
     have hlen2:(clos (ops.toList.map predsOf) []).length = ops.size := by
      have:∀ (r:List (List Nat)) acc,(clos r acc).length = acc.length + r.length := by
       intro r
       induction r with
       | nil => intro acc; simp [clos]
       | cons p r ih => intro acc; rw [clos,ih]; simp; omega
      rw [this]; simp
     have hci:(clos (ops.toList.map predsOf) [])[i]? = some ((clos (ops.toList.map predsOf) []).getD i 0) := by
      simp [List.getD,show i < (clos (ops.toList.map predsOf) []).length by omega]
     have hlj := hall i _ (predsOf o) hci (by rw [List.getElem?_map]; simp [ho]) hpreds j hb
     have hjm:j∈(List.range ops.size).filter (fun i => !listed.getD i true) := by rw [hsplit]; simp [hj]
     rw [List.mem_filter,List.mem_range] at hjm
     have hjlt:j < listed.size := by omega
     have e1:listed.getD j true = listed.getD j false := by simp [Array.getD,hjlt]
     rw [e1,hlj] at hjm
     simp at hjm
    ·exact hb
   obtain ⟨ins,v,hp',hins,hstep,hrest⟩ := bubble pre st hrun hI
   have hcins:cIns P sites ops o = some ins := by
    obtain ⟨k1,k2⟩ := optAll_get ops.toList il hil
    obtain ⟨o',e1,e2⟩ := k2 i ins hins
    have:o' = o := by
     have e3:ops.toList[i]? = some o := by simpa using ho
     rw [e1] at e3; injection e3
    rw [← this]; exact e2
   unfold wpOpIn
   rw [ho]
   dsimp only
   have hfil:(List.range ops.size).filter (fun k => !(listed.setIfInBounds i true).getD k true) = pre ++ post := by
    have h2:∀ k,(listed.setIfInBounds i true).getD k true = (listed.getD k true || decide (k = i)) := by
     intro k
     by_cases hk:k < listed.size
     ·by_cases e:i = k
      ·subst e; simp [Array.getD,hk]
      ·have e' : ¬ k = i := fun h => e h.symm
       simp [Array.getD,hk,e']
       rw [Array.getElem_setIfInBounds_ne hk e]
     ·simp [Array.getD,hk]
    have h3:(List.range ops.size).filter (fun k => !(listed.setIfInBounds i true).getD k true) = ((List.range ops.size).filter (fun k => !listed.getD k true)).filter (fun k => decide (k ≠ i)) := by
     rw [List.filter_filter]
     apply List.filter_congr
     intro k _
     rw [h2]
     cases listed.getD k true <;> by_cases e:k = i <;> simp [e]
    rw [h3,hsplit,List.filter_append,List.filter_cons]
    have hp1:pre.filter (fun k => decide (k ≠ i)) = pre := List.filter_eq_self.2 (fun k hk => by
     have := (List.pairwise_append.1 hsorted).2.2 k hk i (by simp)
     simp; omega)
    have hp2:post.filter (fun k => decide (k ≠ i)) = post := List.filter_eq_self.2 (fun k hk => by
     have := (List.pairwise_cons.1 (List.pairwise_append.1 hsorted).2.1).1 k hk
     simp; omega)
    rw [hp1,hp2]; simp
   refine ins_sound hsim hcins (hD o (Array.mem_toList_iff.2 (Array.mem_of_getElem? ho))) hstep ?_ Q
   intro a' w' hsim'
   refine ih (listed.setIfInBounds i true) _ a' w' (by simp [hsz]) ?_ ?_ hsim' ?_
   ·intro k ok hok hk p hp
    by_cases e:i = k
    ·subst e
     rw [ho] at hok; injection hok with hok; subst hok
     exact getD_set_true (hpreds p hp)
    ·rw [getD_set_ne false e] at hk
     exact getD_set_true (hcl k ok hok hk p hp)
   ·rw [hfil]
    simp at hlen ⊢; omega
   ·rw [hfil]; exact hrest

theorem regD_sound {ro:Option Nat} {sites:List Nat} {ops:Array Oper} {id:Nat} {il:List AIns} {pairs:List (Nat×Nat)} (hc:cRegD P sites ops = some (il,pairs)) (hD:∀ o∈ops.toList,∀ k,o.dst = some k→¬ D.keep k) {Q:Exit→Act→World→Prop} {K:St→Prop}
  (hK:∀ st a w,K st→SimE m w0 S0 Jo D st a w→Q .normal a w) {st:St} {a:Act} {w:World} (h:SimE m w0 S0 Jo D st a w) (hr:ARunD P m pairs il st [] K):(Code.region id ops true).wpIn (Fw ro) 0 P Q a w := by
 unfold cRegD at hc
 cases hil:cIl P sites ops with
 | none => simp [hil] at hc
 | some il' =>
  rw [hil] at hc
  dsimp only at hc
  split at hc
  ·rename_i hcond
   obtain ⟨c1,c2,c3⟩ := hcond
   simp only [sJ,pJ] at hc
   obtain ⟨rfl,rfl⟩ := hc
   have hlen:il'.length = ops.size := by
    have := (optAll_get ops.toList il' hil).1
    simpa using this
   obtain ⟨F,st',_,hF,hKst,hrun⟩ := runD_run (il := il') il' 0 st [] rfl (fun j => by simp) hr
   refine wpIn_region_any c1 (draw_any hil hD (F := F) (fun a w hsim => hK st' a w hKst hsim) ?_ ?_ ops.size (Array.replicate ops.size false) st a _ (by simp) ?_ ?_ ?_ ?_)
   ·intro i o ho p hp
    rw [List.all_eq_true] at c2
    have hlt := (Array.getElem?_eq_some_iff.1 ho).1
    have hm:(predsOf o,i)∈(ops.toList.map predsOf).zipIdx := by
     rw [List.mem_zipIdx_iff_getElem?]
     rw [List.getElem?_map]
     simp [ho]
    have := c2 _ hm
    rw [List.all_eq_true] at this
    simpa using this p hp
   ·intro x y hxy hy
    cases hb:((clos (ops.toList.map predsOf) []).getD y 0).testBit x with
    | true => exact .inl rfl
    | false =>
     right
     have hpm:(x,y)∈openPairs (clos (ops.toList.map predsOf) []) ops.size := by
      simp only [openPairs,List.mem_flatMap,List.mem_range,List.mem_map,List.mem_filter]
      exact ⟨y,hy,x,⟨hxy,by rw [hb]; rfl⟩,rfl⟩
     rw [List.all_eq_true] at c3
     have hap := c3 _ hpm
     intro ix iy hix hiy
     simp only [pairOk,hix,hiy] at hap
     refine ⟨hap,?_⟩
     cases hph:pairHeap il' (x,y) with
     | true =>
      unfold okF at hF
      rw [List.all_eq_true] at hF
      have := hF (x,y) (List.mem_filter.2 ⟨hpm,hph⟩)
      simpa only [Bool.and_eq_true] using this
     | false =>
      -- one of them touches nothing
      simp only [pairHeap,hix,hiy] at hph
      have nothing:∀ k ik,il'[k]? = some ik→heapy ik = false→k < il'.length→(F.getD k ([],[])).1 = []∧(F.getD k ([],[])).2 = [] := by
       intro k ik hik hh hk
       have:∀ (l:List Nat) (s s' : St),Run P m il' F l s s'→k∈l→(F.getD k ([],[])).1 = []∧(F.getD k ([],[])).2 = [] := by
        intro l
        induction l with
        | nil => intro s s' _ hm; cases hm
        | cons q l ihl =>
         intro s s' hrun hm
         obtain ⟨ins,v,hp',g1,g2,g3⟩ := hrun
         rcases List.mem_cons.1 hm with rfl | hm
         ·rw [hik] at g1; injection g1 with g1; subst g1
          have hact:∀ T W,actV P m s ik T W v hp'→T = []∧W = [] := by
           intro T W hact
           unfold actV at hact
           unfold heapy at hh
           split at hact
           ·rename_i op hop
            rw [hop] at hh
            obtain ⟨_,rfl,rfl⟩ := hact
            have hn:isN op = true := by simpa using hh
            have ht:touch s.get op = [] := touch_N hn
            exact ⟨ht,by unfold wrs; split <;> simp [ht]⟩
           ·rename_i hop; rw [hop] at hh; cases hh
           ·rename_i hop; rw [hop] at hh; cases hh
          unfold stepV at g2
          split at g2
          ·exact hact _ _ g2
          ·rcases g2 with ⟨b,_,g2⟩ | g2
           rotate_left
           ·exact ⟨g2.2.2.2.1,g2.2.2.2.2⟩
           split at g2
           ·exact hact _ _ g2
           ·exact ⟨g2.2.2.1,g2.2.2.2⟩
          ·exact g2.elim
         ·exact ihl _ _ g3 hm
       exact this _ _ _ hrun (by rw [List.mem_range']; exact ⟨k,by omega,by simp⟩)
      have hxl:x < il'.length := by omega
      have hyl:y < il'.length := by omega
      cases hhx:heapy ix with
      | false =>
       obtain ⟨e1,e2⟩ := nothing x ix hix hhx hxl
       rw [e1,e2]
       exact ⟨rfl,by simp [disj]⟩
      | true =>
       rw [hhx,Bool.true_and] at hph
       obtain ⟨e1,e2⟩ := nothing y iy hiy hph hyl
       rw [e1,e2]
       exact ⟨by simp [disj],rfl⟩
   ·intro i o ho hl
    have hlt := (Array.getElem?_eq_some_iff.1 ho).1
    simp [Array.getD,hlt] at hl
   ·exact Nat.le_trans (List.length_filter_le _ _) (by simp)
   ·obtain ⟨Φ,S,hsim⟩ := h
    exact ⟨Φ,S,hsim.drew _⟩
   ·have:(List.range ops.size).filter (fun i => !(Array.replicate ops.size false).getD i true) = List.range ops.size := by
     apply List.filter_eq_self.2
     intro k hk
     rw [List.mem_range] at hk
     simp [Array.getD,hk]
    rw [this,List.range_eq_range',← hlen]
    exact hrun
  ·cases hc

end
end Go.Mx
