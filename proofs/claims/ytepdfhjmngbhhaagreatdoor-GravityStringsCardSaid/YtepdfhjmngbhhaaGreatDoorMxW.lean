/- Layers of the walk: abstract values, operations, calls, loops, and what they do. No condition. -/
import Derived.Test.YtepdfhjmngbhhaaGreatDoorMxV
namespace Go.Mx
variable [Laid]
open Go.RowKit

abbrev EIter := FuncId→List (List Pv)→Option (List (List V))
def IterOk (P:Program) (it:EIter):Prop := ∀ f cap vs,it f cap = some vs→Iter P f cap vs
abbrev ECall := Nat→List Blk→FuncId→List V→Option (V×List Blk)
def CallOk (P:Program) (m:Nat) (call:ECall):Prop := ∀ s hp f args v hp',call s hp f args = some (v,hp')→CallR P m s hp f args v hp'

section
variable (P:Program) (call:ECall) (it:EIter)

def evOp (st:St):AI→Option (V×List Blk)
 | .op o => astep st.hp st.get o
 | .call s f args => call s st.hp f (args.map st.get)
 | .callv s x args => match st.get x with
  | .clo f caps => if callable P f = true then call s st.hp f (args.map st.get ++ caps) else none
  | .p (.fn f caps) => if callable P f = true then call s st.hp f (args.map st.get ++ caps.map .ipt) else none
  | _ => none

def evTouch (st:St):AI→List Nat×List Nat
 | .op o => (touch st.get o,wrs st.get o)
 | .call s _ args => ((args.map st.get).flatMap slots ++ [s],wrC st.hp (args.map st.get) s)
 | .callv s x args => match st.get x with
  | .clo _ caps => ((args.map st.get ++ caps).flatMap slots ++ [s],wrC st.hp (args.map st.get ++ caps) s)
  | .p (.fn _ caps) => ((args.map st.get ++ caps.map V.ipt).flatMap slots ++ [s],wrC st.hp (args.map st.get ++ caps.map V.ipt) s)
  | _ => ([],[])

def evRun:List AIns→St→Option St
 | [],st => some st
 | i :: r,st => match i.guard with
  | none => match evOp P call st i.op with
   | some (v,hp) => evRun r (St.put ⟨st.ts,hp⟩ i.dst v)
   | none => none
  | some (some g,want) => match st.get (.t g) with
   | .p (.bool b) => if b = want then match evOp P call st i.op with
     | some (v,hp) => evRun r (St.put ⟨st.ts,hp⟩ i.dst v)
     | none => none
    else evRun r (st.put i.dst .no)
   | .no => evRun r (st.put i.dst .no)
   | _ => none
  | some (none,_) => none

def evRunD (pairs:List (Nat×Nat)):List AIns→St→List (List Nat×List Nat)→Option St
 | [],st,F => if okF F pairs = true then some st else none
 | i :: r,st,F => match i.guard with
  | none => match evOp P call st i.op with
   | some (v,hp) => evRunD pairs r (St.put ⟨st.ts,hp⟩ i.dst v) (F ++ [evTouch st i.op])
   | none => none
  | some (some g,want) => match st.get (.t g) with
   | .p (.bool b) => if b = want then match evOp P call st i.op with
     | some (v,hp) => evRunD pairs r (St.put ⟨st.ts,hp⟩ i.dst v) (F ++ [evTouch st i.op])
     | none => none
    else evRunD pairs r (st.put i.dst .no) (F ++ [([],[])])
   | .no => evRunD pairs r (st.put i.dst .no) (F ++ [([],[])])
   | _ => none
  | some (none,_) => none

def evFrz:List AIns→St→Option (List Nat)
 | [],_ => some []
 | i :: r,st =>
  let go:Option (List Nat) := match evOp P call st i.op with
   | some (v,hp) => match evFrz r (St.put ⟨st.ts,hp⟩ i.dst v) with
    | some l => some ((match i.op with
     | .op _ => []
     | _ => (evTouch st i.op).2.filter fun t => liveS st.hp t && !liveS hp t) ++ l)
    | none => none
   | none => none
  match i.guard with
  | none => go
  | some (some g,want) => match st.get (.t g) with
   | .p (.bool b) => if b = want then go else evFrz r (st.put i.dst .no)
   | .no => evFrz r (st.put i.dst .no)
   | _ => none
  | some (none,_) => none

def evLoop (body:St→Option (AEx×St)):Nat→St→Option (AEx×St)
 | 0,_ => none
 | n + 1,st => match body st with
  | some (.normal,s) => evLoop body n s
  | r => r

def evRng (x y:St→Option (AEx×St)) (ps bs:List Nat):List (List V)→St→Option (AEx×St)
 | [],st => some (.normal,st)
 | xs :: r,st => match decide (xs.length = ps.length) with
  | true => match x (st.puts ps xs) with
   | some (.normal,s) => match y s with
    | some (.normal,s') => evRng x y ps bs r (s'.mask bs)
    | some (e,s') => some (e,s'.mask bs)
    | none => none
   | _ => none
  | false => none

def evCode (m n:Nat):ACode→St→Option (AEx×St)
 | .skip,st => some (.normal,st)
 | .reg ops,st => match evRun P call ops st with
  | some s => some (.normal,s)
  | none => none
 | .regd ops pairs,st => match evRunD P call pairs ops st [] with
  | some s => some (.normal,s)
  | none => match evFrz P call ops st with
   | some fz => if (fz.all fun t => decide (m≤t)) = true then match evRunD P call pairs ops ⟨st.ts,frzAll st.hp fz⟩ [] with
    | some s => some (.normal,s)
    | none => none
    else none
   | none => none
 | .seq x y,st => match evCode m n x st with
  | some (.normal,s) => evCode m n y s
  | r => r
 | .cond c x y,st => match st.get c with
  | .p (.bool b) => match b with
   | true => evCode m n x st
   | false => evCode m n y st
  | .ub (_ + 1) => evCode m n y st
  | _ => none
 | .block id x,st => match evCode m n x st with
  | some (.exit j,s) => if j = id then some (.normal,s) else some (.exit j,s)
  | r => r
 | .loop x,st => evLoop (evCode m n x) n st
 | .exit id,st => some (.exit id,st)
 | .ret,st => some (.ret,st)
 | .rng g ps bs x y,st => match st.get g with
  | .p (.fn f cap) => match callI P f,it f cap with
   | true,some vs => evRng (evCode m n x) (evCode m n y) ps bs vs st
   | _,_ => none
  | _ => none
 | .rngc _ _ _ _ _ _ _,_ => none
end

section
variable {P:Program} {m:Nat}

theorem astep_mono {st:St} {i:AIns} {K K' : St→Prop} (hK:∀ s,K s→K' s) (h:AStep P m st i K):AStep P m st i K' := by
 unfold AStep at h ⊢
 split at h
 ·obtain ⟨v,hp',h1,h2⟩ := h
  exact ⟨v,hp',h1,hK _ h2⟩
 ·split at h
  ·obtain ⟨h0,v,hp',h1,h2⟩ := h
   exact ⟨h0,v,hp',h1,hK _ h2⟩
  ·obtain ⟨h0,v,hp',h1,h2⟩ := h
   exact ⟨h0,v,hp',h1,hK _ h2⟩
  ·exact h
 ·obtain ⟨v,hp',h1,h2⟩ := h
  exact ⟨v,hp',h1,hK _ h2⟩

theorem arun_mono {K K' : St→Prop} (hK:∀ s,K s→K' s):∀ (l:List AIns) (st:St),ARun P m l st K→ARun P m l st K'
 | [],st,h => hK st h
 | i :: r,st,h => by
  simp only [ARun] at h ⊢
  split at h
  ·exact astep_mono (fun s hs => arun_mono hK r s hs) h
  ·split at h
   ·split at h
    ·rename_i e
     rw [if_pos e]
     exact astep_mono (fun s hs => arun_mono hK r s hs) h
    ·rename_i e
     rw [if_neg e]
     exact arun_mono hK r _ h
   ·exact arun_mono hK r _ h
   ·exact h
  ·exact h

theorem ado_mono {st:St} {i:AIns} {K K' : St→List Nat×List Nat→Prop} (hK:∀ s f,K s f→K' s f) (h:ADo P m st i K):ADo P m st i K' := by
 unfold ADo at h ⊢
 split at h
 ·obtain ⟨v,hp',h1,h2⟩ := h
  exact ⟨v,hp',h1,hK _ _ h2⟩
 ·split at h
  ·obtain ⟨h0,v,hp',h1,h2⟩ := h
   exact ⟨h0,v,hp',h1,hK _ _ h2⟩
  ·obtain ⟨h0,v,hp',h1,h2⟩ := h
   exact ⟨h0,v,hp',h1,hK _ _ h2⟩
  ·exact h
 ·obtain ⟨v,hp',h1,h2⟩ := h
  exact ⟨v,hp',h1,hK _ _ h2⟩

theorem arund_mono {pairs:List (Nat×Nat)} {K K' : St→Prop} (hK:∀ s,K s→K' s):∀ (l:List AIns) (st:St) (F:List (List Nat×List Nat)),ARunD P m pairs l st F K→ARunD P m pairs l st F K'
 | [],st,F,h => ⟨h.1,hK st h.2⟩
 | i :: r,st,F,h => by
  simp only [ARunD] at h ⊢
  split at h
  ·exact ado_mono (fun s f hs => arund_mono hK r s _ hs) h
  ·split at h
   ·split at h
    ·rename_i e
     rw [if_pos e]
     exact ado_mono (fun s f hs => arund_mono hK r s _ hs) h
    ·rename_i e
     rw [if_neg e]
     exact arund_mono hK r _ _ h
   ·exact arund_mono hK r _ _ h
   ·exact h
  ·exact h

omit [Laid] in
theorem rngK_mono {B:List V→St→(AEx→St→Prop)→Prop} (hB:∀ xs s K K',(∀ e s,K e s→K' e s)→B xs s K→B xs s K') {Q Q' : AEx→St→Prop} (hQ:∀ e s,Q e s→Q' e s):∀ (vs:List (List V)) (s:St),RngK B Q vs s→RngK B Q' vs s
 | [],s,h => hQ _ _ h
 | xs :: r,s,h => hB xs s _ _ (fun e s h => match e,h with
  | .normal,h => rngK_mono hB hQ r s h
  | .exit _,h => hQ _ _ h
  | .ret,h => hQ _ _ h) h

theorem awp_mono:∀ (c:ACode) (Q Q' : AEx→St→Prop) (st:St),(∀ e s,Q e s→Q' e s)→AWp P m c Q st→AWp P m c Q' st := by
 intro c
 induction c with
 | skip => intro Q Q' st hQ h; exact hQ _ _ h
 | reg ops => intro Q Q' st hQ h; exact arun_mono (hQ .normal) ops st h
 | regd ops pairs => intro Q Q' st hQ h; obtain ⟨fz,h1,h2⟩ := h; exact ⟨fz,h1,arund_mono (hQ .normal) ops _ [] h2⟩
 | seq x y ihx ihy =>
  intro Q Q' st hQ h
  refine ihx _ _ st ?_ h
  intro e s he
  cases e with
  | normal => exact ihy Q Q' s hQ he
  | exit id => exact hQ _ _ he
  | ret => exact hQ _ _ he
 | cond o x y ihx ihy =>
  intro Q Q' st hQ h
  simp only [AWp] at h ⊢
  split at h
  ·split at h
   ·rename_i e; rw [if_pos e]; exact ihx Q Q' st hQ h
   ·rename_i e; rw [if_neg e]; exact ihy Q Q' st hQ h
  ·exact ⟨fun e => ihx Q Q' st hQ (h.1 e),ihy Q Q' st hQ h.2⟩
  ·exact h
 | block id x ih =>
  intro Q Q' st hQ h
  refine ih _ _ st ?_ h
  intro e s he
  cases e with
  | normal => exact hQ _ _ he
  | exit j =>
   simp only [AEx.blk] at he ⊢
   split at he
   ·rename_i e; rw [if_pos e]; exact hQ _ _ he
   ·rename_i e; rw [if_neg e]; exact hQ _ _ he
  | ret => exact hQ _ _ he
 | loop x ih =>
  intro Q Q' st hQ h
  obtain ⟨I,μ,h0,hr⟩ := h
  refine ⟨I,μ,h0,fun s hs => ih _ _ s ?_ (hr s hs)⟩
  intro e s' he
  cases e with
  | normal => exact he
  | exit id => exact hQ _ _ he
  | ret => exact hQ _ _ he
 | exit id => intro Q Q' st hQ h; exact hQ _ _ h
 | ret => intro Q Q' st hQ h; exact hQ _ _ h
 | rng g ps bs x y ihx ihy =>
  intro Q Q' st hQ h
  obtain ⟨s0,h1,f,cap,vs,h2,h3,h4,h5⟩ := h
  refine ⟨s0,h1,f,cap,vs,h2,h3,h4,rngK_mono ?_ hQ vs s0 h5⟩
  rintro xs s K K' hK ⟨hl,hb⟩
  refine ⟨hl,ihx _ _ _ (fun e s h => ?_) hb⟩
  cases e with
  | normal => exact ihy _ _ _ (fun e s ⟨s1,k1,k2⟩ => ⟨s1,k1,hK _ _ k2⟩) h
  | exit id => exact h
  | ret => exact h

 | rngc f args t ps bs x y ihx ihy =>
  intro Q Q' st hQ h
  obtain ⟨h0,us,vs,h1,h2,h3,s0,h4,h5⟩ := h
  refine ⟨h0,us,vs,h1,h2,h3,s0,h4,rngK_mono ?_ hQ vs s0 h5⟩
  rintro xs s K K' hK ⟨hl,hb⟩
  refine ⟨hl,ihx _ _ _ (fun e s h => ?_) hb⟩
  cases e with
  | normal => exact ihy _ _ _ (fun e s ⟨s1,k1,k2⟩ => ⟨s1,k1,hK _ _ k2⟩) h
  | exit id => exact h
  | ret => exact h
def Unr (P:Program) (m:Nat) (x:ACode) (Q:AEx→St→Prop):Nat→St→Prop
 | 0,_ => False
 | n + 1,st => AWp P m x (AEx.seq (Unr P m x Q n) Q) st

theorem m_loop_unr {x:ACode} {Q:AEx→St→Prop} {st:St} (n:Nat) (h:Unr P m x Q n st):AWp P m (.loop x) Q st := by
 refine ⟨fun s => ∃ n,Unr P m x Q n s,fun s => leastOf (fun n => Unr P m x Q n s),⟨st,fun _ _ _ _ Φ _ _ _ h => ⟨Φ,_,h⟩,n,h⟩,?_⟩
 intro s hs
 obtain ⟨h1,h2⟩ := leastOf_spec hs
 cases hk:leastOf (fun n => Unr P m x Q n s) with
 | zero => rw [hk] at h1; exact h1.elim
 | succ k =>
  rw [hk] at h1
  refine awp_mono x _ _ s ?_ h1
  intro e s' he
  cases e with
  | normal =>
   refine ⟨s',fun _ _ _ _ Φ _ _ _ h => ⟨Φ,h⟩,⟨k,he⟩,?_⟩
   have := (leastOf_spec (p := fun n => Unr P m x Q n s') ⟨k,he⟩).2 k he
   show leastOf (fun n => Unr P m x Q n s') < leastOf (fun n => Unr P m x Q n s)
   omega
  | exit id => exact he
  | ret => exact he

theorem ev_step {call:ECall} (hc:CallOk P m call) {st:St} {i:AIns} {v:V} {hp:List Blk} (h:evOp P call st i.op = some (v,hp)) {K:St→Prop} (hK:K (St.put ⟨st.ts,hp⟩ i.dst v)):AStep P m st i K := by
 unfold evOp at h
 unfold AStep
 split at h
 ·rename_i o ho
  rw [ho]; exact ⟨v,hp,h,hK⟩
 ·rename_i s f args ho
  rw [ho]; exact ⟨v,hp,hc _ _ _ _ _ _ h,hK⟩
 ·rename_i s x args ho
  rw [ho]
  dsimp only
  split at h
  ·rename_i f caps hx
   rw [hx]
   split at h
   ·rename_i hcl; exact ⟨hcl,v,hp,hc _ _ _ _ _ _ h,hK⟩
   ·cases h
  ·rename_i f caps hx
   rw [hx]
   split at h
   ·rename_i hcl; exact ⟨hcl,v,hp,hc _ _ _ _ _ _ h,hK⟩
   ·cases h
  ·cases h

theorem ev_do {call:ECall} (hc:CallOk P m call) {st:St} {i:AIns} {v:V} {hp:List Blk} (h:evOp P call st i.op = some (v,hp)) {K:St→List Nat×List Nat→Prop} (hK:K (St.put ⟨st.ts,hp⟩ i.dst v) (evTouch st i.op)):ADo P m st i K := by
 unfold evOp at h
 unfold ADo
 unfold evTouch at hK
 split at h
 ·rename_i o ho
  rw [ho] at hK ⊢; exact ⟨v,hp,h,hK⟩
 ·rename_i s f args ho
  rw [ho] at hK ⊢; exact ⟨v,hp,hc _ _ _ _ _ _ h,hK⟩
 ·rename_i s x args ho
  rw [ho] at hK ⊢
  dsimp only at hK ⊢
  split at h
  ·rename_i f caps hx
   rw [hx] at hK ⊢
   split at h
   ·rename_i hcl; exact ⟨hcl,v,hp,hc _ _ _ _ _ _ h,hK⟩
   ·cases h
  ·rename_i f caps hx
   rw [hx] at hK ⊢
   split at h
   ·rename_i hcl; exact ⟨hcl,v,hp,hc _ _ _ _ _ _ h,hK⟩
   ·cases h
  ·cases h

theorem ev_run {call:ECall} (hc:CallOk P m call) {K:St→Prop} {st' : St} (hK:K st'):∀ (l:List AIns) (st:St),evRun P call l st = some st'→ARun P m l st K
 | [],st,h => by simp only [evRun,sJ] at h; subst h; exact hK
 | i :: r,st,h => by
  simp only [evRun] at h
  simp only [ARun]
  split at h
  ·rename_i hg
   rw [hg]
   dsimp only
   split at h
   ·rename_i v hp hv; exact ev_step hc hv (ev_run hc hK r _ h)
   ·cases h
  ·rename_i g want hg
   split at h
   ·rename_i b hb
    split at h
    ·rename_i e
     split at h
     ·rename_i v hp hv
      rw [hg]; dsimp only; rw [hb]; dsimp only
      rw [if_pos e]
      exact ev_step hc hv (ev_run hc hK r _ h)
     ·cases h
    ·rename_i e
     rw [hg]; dsimp only; rw [hb]; dsimp only
     rw [if_neg e]
     exact ev_run hc hK r _ h
   ·rename_i hb
    rw [hg]; dsimp only; rw [hb]; dsimp only
    exact ev_run hc hK r _ h
   ·cases h
  ·cases h

theorem ev_runD {call:ECall} (hc:CallOk P m call) {pairs:List (Nat×Nat)} {K:St→Prop} {st' : St} (hK:K st'):∀ (l:List AIns) (st:St) (F:List (List Nat×List Nat)),evRunD P call pairs l st F = some st'→ARunD P m pairs l st F K
 | [],st,F,h => by
  simp only [evRunD] at h
  split at h
  ·rename_i hF; simp only [sJ] at h; subst h; exact ⟨hF,hK⟩
  ·cases h
 | i :: r,st,F,h => by
  simp only [evRunD] at h
  simp only [ARunD]
  split at h
  ·rename_i hg
   rw [hg]
   dsimp only
   split at h
   ·rename_i v hp hv; exact ev_do hc hv (ev_runD hc hK r _ _ h)
   ·cases h
  ·rename_i g want hg
   split at h
   ·rename_i b hb
    split at h
    ·rename_i e
     split at h
     ·rename_i v hp hv
      rw [hg]; dsimp only; rw [hb]; dsimp only
      rw [if_pos e]
      exact ev_do hc hv (ev_runD hc hK r _ _ h)
     ·cases h
    ·rename_i e
     rw [hg]; dsimp only; rw [hb]; dsimp only
     rw [if_neg e]
     exact ev_runD hc hK r _ _ h
   ·rename_i hb
    rw [hg]; dsimp only; rw [hb]; dsimp only
    exact ev_runD hc hK r _ _ h
   ·cases h
  ·cases h

theorem ev_code {call:ECall} (hc:CallOk P m call) {it:EIter} (hit:IterOk P it) {n:Nat}:∀ (c:ACode) (st:St) (e:AEx) (st' : St) (Q:AEx→St→Prop),evCode P call it m n c st = some (e,st')→Q e st'→AWp P m c Q st := by
 intro c
 induction c with
 | skip => intro st e st' Q h hQ; simp only [evCode,sJ,pJ] at h; obtain ⟨rfl,rfl⟩ := h; exact hQ
 | reg ops =>
  intro st e st' Q h hQ
  simp only [evCode] at h
  split at h
  ·rename_i s hs
   simp only [sJ,pJ] at h; obtain ⟨rfl,rfl⟩ := h
   exact ev_run hc hQ ops st hs
  ·cases h
 | regd ops pairs =>
  intro st e st' Q h hQ
  simp only [evCode] at h
  split at h
  ·rename_i s hs
   simp only [sJ,pJ] at h; obtain ⟨rfl,rfl⟩ := h
   exact ⟨[],by simp,ev_runD hc hQ ops st [] hs⟩
  ·split at h
   ·rename_i fz hfz
    split at h
    ·rename_i hm
     split at h
     ·rename_i s hs
      simp only [sJ,pJ] at h; obtain ⟨rfl,rfl⟩ := h
      refine ⟨fz,fun t ht => ?_,ev_runD hc hQ ops _ [] hs⟩
      rw [List.all_eq_true] at hm
      simpa using hm t ht
     ·cases h
    ·cases h
   ·cases h
 | seq x y ihx ihy =>
  intro st e st' Q h hQ
  simp only [evCode] at h
  split at h
  ·rename_i s hs
   exact ihx st .normal s _ hs (ihy s e st' Q h hQ)
  ·rename_i hne
   cases e with
   | normal => exact absurd h (hne st')
   | exit id => exact ihx st _ st' _ h hQ
   | ret => exact ihx st _ st' _ h hQ
 | cond o x y ihx ihy =>
  intro st e st' Q h hQ
  simp only [evCode] at h
  simp only [AWp]
  split at h
  ·rename_i b hb
   split at h
   ·rw [hb]; exact ihx st e st' Q h hQ
   ·rw [hb]; exact ihy st e st' Q h hQ
  ·rename_i hb; rw [hb]; exact ⟨fun e0 => (by cases e0),ihy st e st' Q h hQ⟩
  ·cases h
 | block id x ih =>
  intro st e st' Q h hQ
  simp only [evCode] at h
  split at h
  ·rename_i j s hs
   refine ih st _ s _ hs ?_
   simp only [AEx.blk]
   split at h
   ·rename_i e'
    simp only [sJ,pJ] at h; obtain ⟨rfl,rfl⟩ := h
    rw [if_pos e']; exact hQ
   ·rename_i e'
    simp only [sJ,pJ] at h; obtain ⟨rfl,rfl⟩ := h
    rw [if_neg e']; exact hQ
  ·rename_i hne
   refine ih st e st' _ h ?_
   cases e with
   | normal => exact hQ
   | exit j => exact absurd h (hne j st')
   | ret => exact hQ
 | loop x ih =>
  intro st e st' Q h hQ
  have key:∀ k st,evLoop (evCode P call it m n x) k st = some (e,st')→Unr P m x Q k st := by
   intro k
   induction k with
   | zero => intro st h; simp [evLoop] at h
   | succ k ihk =>
    intro st h
    simp only [evLoop] at h
    split at h
    ·rename_i s hs
     exact ih st .normal s _ hs (ihk s h)
    ·rename_i hne
     refine ih st e st' _ h ?_
     cases e with
     | normal => exact absurd h (hne st')
     | exit j => exact hQ
     | ret => exact hQ
  exact m_loop_unr n (key n st h)
 | exit id => intro st e st' Q h hQ; simp only [evCode,sJ,pJ] at h; obtain ⟨rfl,rfl⟩ := h; exact hQ
 | ret => intro st e st' Q h hQ; simp only [evCode,sJ,pJ] at h; obtain ⟨rfl,rfl⟩ := h; exact hQ
 | rngc f args t ps bs x y ihx ihy =>
  intro st e st' Q h hQ
  simp [evCode] at h
 | rng g ps bs x y ihx ihy =>
  intro st e st' Q h hQ
  simp only [evCode] at h
  split at h
  ·rename_i f cap hg
   split at h
   ·rename_i vs hcl hvs
    refine ⟨st,fun _ _ _ _ Φ _ _ _ h => ⟨Φ,h⟩,f,cap,vs,hcl,hg,hit _ _ _ hvs,?_⟩
    have key:∀ (vs:List (List V)) (st:St),evRng (evCode P call it m n x) (evCode P call it m n y) ps bs vs st = some (e,st') →
      RngK (fun xs s K => xs.length = ps.length∧AWp P m x (AEx.seq (AWp P m y (fun e s' => ∃ s1,Weak m (s'.mask bs) s1∧K e s1)) (fun _ _ => False)) (s.puts ps xs)) Q vs st := by
     intro vs
     induction vs with
     | nil => intro st h; simp only [evRng,sJ,pJ] at h; obtain ⟨rfl,rfl⟩ := h; exact hQ
     | cons xs r ih =>
      intro st h
      simp only [evRng] at h
      split at h
      ·rename_i hl
       split at h
       ·rename_i s hs
        refine ⟨of_decide_eq_true hl,ihx _ .normal s _ hs ?_⟩
        split at h
        ·rename_i s' hs'
         exact ihy s .normal s' _ hs' ⟨_,fun _ _ _ _ Φ _ _ _ h => ⟨Φ,h⟩,ih _ h⟩
        ·rename_i e' s' hne hs'
         simp only [sJ,pJ] at h; obtain ⟨rfl,rfl⟩ := h
         refine ihy s _ s' _ hs' ⟨_,fun _ _ _ _ Φ _ _ _ h => ⟨Φ,h⟩,?_⟩
         cases e' with
         | normal => exact absurd rfl hne
         | exit id => exact hQ
         | ret => exact hQ
        ·cases h
       ·cases h
      ·cases h
    exact key vs st h
   ·cases h
  ·cases h
end

def ioSlot (hp:List Blk):List V→Option (Nat×Blk)
 | [] => none
 | .ptr t ver _ :: r => match hp[t]? with
  | some b => if b.ver = ver∧b.st.isLive = true∧0 < b.cs.length then some (t,b) else ioSlot hp r
  | none => ioSlot hp r
 | _ :: r => ioSlot hp r

def usOf (hp:List Blk):List V→List (Nat×Blk)
 | [] => []
 | .ptr t ver _ :: r | .ref t ver _ _ _ :: r => match hp[t]? with
  | some b => if b.ver = ver∧b.st.isLive = true∧0 < b.cs.length then (match (usOf hp r).any fun q => q.1 == t with
    | true => usOf hp r
    | false => (t,b) :: usOf hp r) else usOf hp r
  | none => usOf hp r
 | _ :: r => usOf hp r

structure EFun where
 F:FuncId→List V→Option V
 M:FuncId→Option (List V→List Pv→Option (V×List Pv))
 O:FuncId→Option (List V→Option (Nat×Nat×List Pv))
 N:FuncId→Option (List V→List (List Pv)→Option (V×List (List Pv)))
structure EFun.Ok (P:Program) (E:EFun):Prop where
 F:∀ f as r,E.F f as = some r→Ret P f as r
 M:∀ f g as ps r ps',E.M f = some g→g as ps = some (r,ps')→RetM P f as ps r ps'
 O:∀ f g as n k ps,E.O f = some g→g as = some (n,k,ps)→RetO P f as (fun t ver => .ref t ver 0 n k) (ps.map .p)
 N:∀ f g as pss r pss',E.N f = some g→g as pss = some (r,pss')→RetN P f as pss r pss'

def evCallM (m:Nat) (g:List V→List Pv→Option (V×List Pv)) (hp:List Blk) (args:List V):Option (V×List Blk) := match ioSlot hp args with
 | some (u,b) => match allP b.cs,optAll (ioV u b.ver hp) args with
  | some ps,some as => if ((args.flatMap (ioS u b.ver)).all fun t => decide (m≤t) && t != u) = true∧u∈args.flatMap slots then match g as ps with
   | some (r,ps') => some (r,(frzAll hp (args.flatMap (ioS u b.ver))).set u ⟨b.ver,.live,ps'.map .p⟩)
   | none => none
   else none
  | _,_ => none
 | none => none
def evCallN (m:Nat) (g:List V→List (List Pv)→Option (V×List (List Pv))) (hp:List Blk) (args:List V):Option (V×List Blk) := match optAll (fun q:Nat×Blk => allP q.2.cs) (usOf hp args),optAll (ioVN (usOf hp args) hp) args with
 | some pss,some as => if ((usOf hp args).map (·.1)).Nodup∧((usOf hp args).all fun q => (args.flatMap slots).contains q.1) = true∧((args.flatMap (ioSN (usOf hp args))).all fun t => decide (m≤t) && !((usOf hp args).map (·.1)).contains t) = true then match g as pss with
  | some (r,pss') => some (r,setAll (frzAll hp (args.flatMap (ioSN (usOf hp args)))) (usOf hp args) pss')
  | none => none
  else none
 | _,_ => none
def evCallO (m s:Nat) (g:List V→Option (Nat×Nat×List Pv)) (hp:List Blk) (args:List V):Option (V×List Blk) := match optAll (pur hp) args,(frzAll hp (args.flatMap slots))[s]? with
 | some as,some b => if ((args.flatMap slots).all fun t => decide (m≤t)) = true then match g as with
  | some (n,k,ps) => some (.ref s (b.ver + 1) 0 n k,(frzAll hp (args.flatMap slots)).set s ⟨b.ver + 1,.live,ps.map .p⟩)
  | none => none
  else none
 | _,_ => none
def evCallF (m:Nat) (F:List V→Option V) (hp:List Blk) (args:List V):Option (V×List Blk) := match optAll (pur hp) args with
 | some as => if ((args.flatMap slots).all fun t => decide (m≤t)) = true then match F as with
  | some r => some (r,frzAll hp (args.flatMap slots))
  | none => none
  else none
 | none => none
def evCall (m:Nat) (E:EFun):ECall := fun s hp f args =>
 match E.M f with
 | some g => evCallM m g hp args
 | none => match E.N f with
  | some g => evCallN m g hp args
  | none => match E.O f with
   | some g => evCallO m s g hp args
   | none => evCallF m (E.F f) hp args

omit [Laid] in
theorem ioSlot_get {hp:List Blk} {u:Nat} {b:Blk}:∀ (l:List V),ioSlot hp l = some (u,b)→hp[u]? = some b∧b.st = .live∧0 < b.cs.length
 | [],h => by cases h
 | x :: r,h => by
  cases x with
  | ptr t ver o =>
   simp only [ioSlot] at h
   split at h
   ·rename_i b' hb
    split at h
    ·rename_i hc
     simp only [sJ,pJ] at h
     obtain ⟨rfl,rfl⟩ := h
     refine ⟨hb,?_,hc.2.2⟩
     cases hs:b'.st <;> simp_all [BSt.isLive]
    ·exact ioSlot_get r h
   ·exact ioSlot_get r h
  | _ => exact ioSlot_get r (by simpa [ioSlot] using h)

omit [Laid] in
theorem usOf_get {hp:List Blk}:∀ (l:List V),∀ q∈usOf hp l,hp[q.1]? = some q.2∧q.2.st = .live∧0 < q.2.cs.length
 | [],q,h => by cases h
 | x :: r,q,h => by
  have one:∀ (t ver:Nat),q∈(match hp[t]? with
    | some b => if b.ver = ver∧b.st.isLive = true∧0 < b.cs.length then (match (usOf hp r).any fun q => q.1 == t with
     | true => usOf hp r
     | false => (t,b) :: usOf hp r) else usOf hp r
    | none => usOf hp r)→hp[q.1]? = some q.2∧q.2.st = .live∧0 < q.2.cs.length := by
   intro t ver h
   split at h
   ·rename_i b' hb
    split at h
    ·rename_i hc
     split at h
     ·exact usOf_get r q h
     ·rcases List.mem_cons.1 h with rfl | h
      ·refine ⟨hb,?_,hc.2.2⟩
       cases hs:b'.st <;> simp_all [BSt.isLive]
      ·exact usOf_get r q h
    ·exact usOf_get r q h
   ·exact usOf_get r q h
  cases x with
  | ptr t ver o => exact one t ver (by simpa only [usOf] using h)
  | ref t ver o n k => exact one t ver (by simpa only [usOf] using h)
  | _ => exact usOf_get r q (by simpa [usOf] using h)

theorem evCall_ok {P:Program} {m:Nat} {E:EFun} (hE:E.Ok P):CallOk P m (evCall m E) := by
 intro s hp f args v hp' h
 unfold evCall at h
 split at h
 ·rename_i g hg
  unfold evCallM at h
  split at h
  ·rename_i u b hu
   split at h
   ·rename_i ps as hps has
    split at h
    ·rename_i hc
     split at h
     ·rename_i r ps' hr
      simp only [sJ,pJ] at h
      obtain ⟨rfl,rfl⟩ := h
      obtain ⟨k1,k2,k3⟩ := ioSlot_get args hu
      exact .io as _ u b ps ps' hc.2 k1 k2 k3 hps has hc.1 (hE.M f g as ps _ ps' hg hr)
     ·cases h
    ·cases h
   ·cases h
  ·cases h
 ·split at h
  ·rename_i g hg
   unfold evCallN at h
   split at h
   ·rename_i pss as hps has
    split at h
    ·rename_i hc
     split at h
     ·rename_i r pss' hr
      simp only [sJ,pJ] at h
      obtain ⟨rfl,rfl⟩ := h
      obtain ⟨c1,c2,c3⟩ := hc
      refine .ion as _ (usOf hp args) pss pss' c1 (fun q hq => ?_) (usOf_get args) hps has c3 (hE.N f g as pss _ pss' hg hr)
      rw [List.all_eq_true] at c2
      simpa using c2 q hq
     ·cases h
    ·cases h
   ·cases h
  ·split at h
   ·rename_i g hg
    unfold evCallO at h
    split at h
    ·rename_i as b has hb
     split at h
     ·rename_i hc
      split at h
      ·rename_i n k ps hr
       simp only [sJ,pJ] at h
       obtain ⟨rfl,rfl⟩ := h
       exact .own as (fun t ver => .ref t ver 0 n k) (ps.map .p) b has hc (hE.O f g as n k ps hg hr) hb
      ·cases h
     ·cases h
    ·cases h
   ·unfold evCallF at h
    split at h
    ·rename_i as has
     split at h
     ·rename_i hc
      split at h
      ·rename_i r hr
       simp only [sJ,pJ] at h
       obtain ⟨rfl,rfl⟩ := h
       exact .pure as _ has hc (hE.F f as _ hr)
      ·cases h
     ·cases h
    ·cases h

abbrev Tab := List (FuncId×Nat×AFn)
def codeOf (P:Program):Nat→FuncId→Option AFn
 | 0,f => cFn P f
 | 1,f => cFnM P f
 | 2,f => cFn P f
 | m + 3,f => cFnN P m f
def Tab.ok (P:Program) (T:Tab):Prop := ∀ x∈T,codeOf P x.2.1 x.1 = some x.2.2
theorem Tab.ok_nil {P:Program}:Tab.ok P [] := fun _ h => by cases h
theorem Tab.ok_cons {P:Program} {f:FuncId} {b:Nat} {F:AFn} {T:Tab} (h:codeOf P b f = some F) (hT:T.ok P):Tab.ok P ((f,b,F) :: T) := fun x hx => by
 rcases List.mem_cons.1 hx with rfl | hx
 ·exact h
 ·exact hT x hx
def Tab.find (f:FuncId):Tab→Option (Nat×AFn)
 | [] => none
 | x :: r => match decide (x.1 = f) with
  | true => some x.2
  | false => find f r

def finR (F:AFn) (s:St):Option V := match resV s F.res with
 | some v => purR s.hp v
 | none => none
def finM (F:AFn) (s:St):Option (V×List Pv) := match resV s F.res,s.hp[0]? with
 | some v,some b => if ((slotsR v).all fun t => decide (1≤t)) = true∧b.ver = 0∧b.st.isLive = true then match purR s.hp v,allP b.cs with
   | some r,some ps => some (r,ps)
   | _,_ => none
  else none
 | _,_ => none
def finO (F:AFn) (s:St):Option (Nat×Nat×List Pv) := match resV s F.res with
 | some (.p (.sl k [] true)) => some (0,k,[])
 | some (.ref u ver 0 n k) => match s.hp[u]? with
  | some b => if b.ver = ver∧b.st.isLive = true then (allP b.cs).map fun ps => (n,k,ps) else none
  | none => none
 | _ => none
def takeN (hp:List Blk):Nat→Option (List (List Pv))
 | 0 => some []
 | i + 1 => match takeN hp i,hp[i]? with
  | some l,some b => if b.ver = 0∧b.st.isLive = true then (allP b.cs).map fun ps => l ++ [ps] else none
  | _,_ => none
def finN (m:Nat) (F:AFn) (s:St):Option (V×List (List Pv)) := match resV s F.res,takeN s.hp m with
 | some v,some pss => if ((slotsR v).all fun t => decide (m≤t)) = true then (purR s.hp v).map fun r => (r,pss) else none
 | _,_ => none

omit [Laid] in
theorem takeN_get {hp:List Blk}:∀ (m:Nat) (pss:List (List Pv)),takeN hp m = some pss→pss.length = m∧∀ i,i < m→hp[i]? = some ⟨0,.live,(pss.getD i []).map .p⟩
 | 0,pss,h => by simp only [takeN,sJ] at h; subst h; exact ⟨rfl,fun i hi => absurd hi (Nat.not_lt_zero _)⟩
 | m + 1,pss,h => by
  simp only [takeN] at h
  split at h
  ·rename_i l b hl hb
   split at h
   ·rename_i hc
    cases hp' : allP b.cs with
    | none => simp [hp'] at h
    | some ps =>
     simp only [hp',Option.map_some,sJ] at h
     subst h
     obtain ⟨h1,h2⟩ := takeN_get m l hl
     refine ⟨by simp [h1],fun i hi => ?_⟩
     by_cases e:i = m
     ·subst e
      rw [hb]
      obtain ⟨bv,bs,bc⟩ := b
      simp only at hc hp'
      have hm := allP_map hp'
      have hbs:bs = .live := by cases bs <;> simp_all [BSt.isLive]
      have e2:(l ++ [ps]).getD i [] = ps := by simp [List.getD,← h1]
      rw [e2]
      simp only [hc.1,hbs,hm]
     ·have hi' : i < m := by omega
      rw [h2 i hi']
      have e2:(l ++ [ps]).getD i [] = l.getD i [] := by simp only [List.getD]; rw [List.getElem?_append_left (by omega)]
      rw [e2]
   ·cases h
  ·cases h

def runAt (P:Program) (it:EIter) (E:EFun) (m n:Nat) (F:AFn) (st:St):Option St := match evCode P (evCall m E) it m n F.code st with
 | some (.normal,s) => some s
 | some (.ret,s) => some s
 | _ => none
def evAll (P:Program) (T:Tab) (it:EIter) (E0:EFun) (n:Nat):Nat→EFun
 | 0 => E0
 | d + 1 => {
  F := fun f args => match T.find f with
   | some (0,F) => (runAt P it (evAll P T it E0 n d) 0 n F (initSt F args)).bind (finR F)
   | none => E0.F f args
   | _ => none
  M := fun f => match T.find f with
   | some (1,F) => some fun args ps => (runAt P it (evAll P T it E0 n d) 1 n F (initStM F args ps)).bind (finM F)
   | none => E0.M f
   | _ => none
  O := fun f => match T.find f with
   | some (2,F) => some fun args => (runAt P it (evAll P T it E0 n d) 0 n F (initSt F args)).bind (finO F)
   | none => E0.O f
   | _ => none
  N := fun f => match T.find f with
   | some (m + 3,F) => some fun args pss => match decide (pss.length = m) with
    | true => (runAt P it (evAll P T it E0 n d) m n F (initStN F args pss)).bind (finN m F)
    | false => none
   | none => E0.N f
   | _ => none }

theorem Tab.find_ok {P:Program} {f:FuncId} {y:Nat×AFn}:∀ {T:Tab},T.ok P→T.find f = some y→codeOf P y.1 f = some y.2
 | [],_,h => by cases h
 | x :: r,hT,h => by
  simp only [Tab.find] at h
  split at h
  ·rename_i e
   have e' : x.1 = f := of_decide_eq_true e
   simp only [sJ] at h; subst h
   rw [← e']; exact hT x (by simp)
  ·exact Tab.find_ok (fun z hz => hT z (by simp [hz])) h

theorem runAt_ok {P:Program} {it:EIter} (hit:IterOk P it) {E:EFun} (hE:E.Ok P) {m n:Nat} {F:AFn} {st s:St} (h:runAt P it E m n F st = some s) {R:St→Prop} (hR:R s):AWp P m F.code (Done R) st := by
 unfold runAt at h
 split at h
 ·rename_i s' hs
  simp only [sJ] at h; subst h
  exact ev_code (evCall_ok hE) hit _ _ _ _ _ hs hR
 ·rename_i s' hs
  simp only [sJ] at h; subst h
  exact ev_code (evCall_ok hE) hit _ _ _ _ _ hs hR
 ·cases h

theorem evAll_ok {P:Program} {T:Tab} (hT:T.ok P) {it:EIter} (hit:IterOk P it) {E0:EFun} (h0:E0.Ok P) {n:Nat}:∀ d,(evAll P T it E0 n d).Ok P
 | 0 => h0
 | d + 1 => by
  have hE := evAll_ok hT hit h0 (n := n) d
  refine ⟨fun f as r h => ?_,fun f g as ps r ps' h hg => ?_,fun f g as n' k ps h hg => ?_,fun f g as pss r pss' h hg => ?_⟩
  ·simp only [evAll] at h
   split at h
   ·rename_i F hF
    have hc := Tab.find_ok hT hF
    rw [Option.bind_eq_some_iff] at h
    obtain ⟨s,h1,h2⟩ := h
    refine ret_of hc (runAt_ok hit hE h1 ?_)
    unfold finR at h2
    split at h2
    ·rename_i v hv; exact ⟨v,hv,h2⟩
    ·cases h2
   ·exact h0.F f as r h
   ·cases h
  ·simp only [evAll] at h
   split at h
   ·rename_i F hF
    simp only [sJ] at h; subst h
    have hc := Tab.find_ok hT hF
    dsimp only at hg
    rw [Option.bind_eq_some_iff] at hg
    obtain ⟨s,h1,hs⟩ := hg
    refine retm_of hc (runAt_ok hit hE h1 ?_)
    unfold finM at hs
    split at hs
    ·rename_i v b hv hb
     split at hs
     ·rename_i hcond
      obtain ⟨c1,c2,c3⟩ := hcond
      split at hs
      ·rename_i r' ps'' hr hps
       simp only [sJ,pJ] at hs
       obtain ⟨rfl,rfl⟩ := hs
       refine ⟨⟨v,hv,hr,c1⟩,?_⟩
       rw [hb]
       obtain ⟨bv,bs,bc⟩ := b
       simp only at c2 c3 hps
       have hm := allP_map hps
       have hbs:bs = .live := by cases bs <;> simp_all [BSt.isLive]
       simp only [c2,hbs,hm]
      ·cases hs
     ·cases hs
    ·cases hs
   ·exact h0.M f g as ps r ps' h hg
   ·cases h
  ·simp only [evAll] at h
   split at h
   ·rename_i F hF
    simp only [sJ] at h; subst h
    have hc := Tab.find_ok hT hF
    dsimp only at hg
    rw [Option.bind_eq_some_iff] at hg
    obtain ⟨s,h1,hs⟩ := hg
    refine reto_of hc (runAt_ok hit hE h1 ?_)
    unfold finO at hs
    split at hs
    ·rename_i k' hv
     simp only [sJ,pJ] at hs
     obtain ⟨rfl,rfl,rfl⟩ := hs
     exact ⟨_,[],hv,.inl ⟨_,rfl,rfl,rfl⟩,.refl _⟩
    ·rename_i u ver n' k' hv
     split at hs
     ·rename_i b hb
      split at hs
      ·rename_i hcond
       obtain ⟨rfl,c3⟩ := hcond
       cases hps:allP b.cs with
       | none => simp [hps] at hs
       | some ps' =>
        simp only [hps,Option.map_some,sJ,pJ] at hs
        obtain ⟨rfl,rfl,rfl⟩ := hs
        refine ⟨_,ps',hv,.inr ⟨u,b,rfl,hb,?_,allP_map hps⟩,.refl _⟩
        cases hbs:b.st <;> simp_all [BSt.isLive]
      ·cases hs
     ·cases hs
    ·cases hs
   ·exact h0.O f g as n' k ps h hg
   ·cases h
  ·simp only [evAll] at h
   split at h
   ·rename_i m F hF
    simp only [sJ] at h; subst h
    have hc := Tab.find_ok hT hF
    dsimp only at hg
    split at hg
    ·rename_i hl
     rw [Option.bind_eq_some_iff] at hg
     obtain ⟨s,h1,hs⟩ := hg
     unfold finN at hs
     split at hs
     ·rename_i v pss'' hv hpss
      split at hs
      ·rename_i hcond
       cases hr:purR s.hp v with
       | none => simp [hr] at hs
       | some r' =>
        simp only [hr,Option.map_some,sJ,pJ] at hs
        obtain ⟨rfl,rfl⟩ := hs
        obtain ⟨k1,k2⟩ := takeN_get m _ hpss
        exact retn_of hc (of_decide_eq_true hl) k1 (runAt_ok hit hE h1 ⟨⟨v,r',hv,hr,fun _ _ _ h => h,hcond⟩,fun i hi => ⟨_,k2 i hi,.refl _⟩⟩)
      ·cases hs
     ·cases hs
    ·cases hg
   ·exact h0.N f g as pss r pss' h hg
   ·cases h

def EFun.none:EFun := ⟨fun _ _ => .none,fun _ => .none,fun _ => .none,fun _ => .none⟩
theorem EFun.none_ok {P:Program}:EFun.none.Ok P := ⟨fun _ _ _ h => by simp [EFun.none] at h,fun _ _ _ _ _ _ h => by simp [EFun.none] at h,fun _ _ _ _ _ _ h => by simp [EFun.none] at h,fun _ _ _ _ _ _ h => by simp [EFun.none] at h⟩
theorem ret_ev {P:Program} {T:Tab} (hT:T.ok P) {it:EIter} (hit:IterOk P it) {E0:EFun} (h0:E0.Ok P) {n d:Nat} {f:FuncId} {as:List V} {r:V} (h:(evAll P T it E0 n d).F f as = some r):Ret P f as r := (evAll_ok hT hit h0 d).F f as r h
end Go.Mx
