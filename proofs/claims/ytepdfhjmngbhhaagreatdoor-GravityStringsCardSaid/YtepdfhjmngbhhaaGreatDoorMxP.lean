/- Layers of the walk: abstract values, operations, calls, loops, and what they do. No condition. -/
import Derived.Test.YtepdfhjmngbhhaaGreatDoorMxZ
namespace Go.Mx
variable [Laid]
open Go.RowKit

inductive ARes where
 | tmp (t:Nat)
 | cell1 (t:Nat)
 | celln (t n:Nat)

structure AFn where
 nt:Nat
 ns:Nat
 res:List ARes
 code:ACode

def cRes (P:Program):ResultVar→Option ARes
 | .tmp t => some (.tmp t)
 | .cell a t => match agg? P t,sz? P t with
  | some true,some n => some (.celln a n)
  | some false,some _ => some (.cell1 a)
  | _,_ => none

def cFn (P:Program) (f:FuncId):Option AFn :=
 match P.funcs[f]? with
 | some fn => match fn.body with
  | some c => match cCode P (sitesOf c) true c,optAll (cRes P) fn.results.toList with
   | some ac,some rs => some ⟨fn.ntmps,(sitesOf c).length,rs,ac⟩
   | _,_ => none
  | none => none
 | none => none

def resV1 (st:St):ARes→Option V
 | .tmp t => some (st.get (.t t))
 | .cell1 t => match behind st.hp (st.get (.t t)) with
  | some cs => cs[0]?
  | none => none
 | .celln t n => match behind st.hp (st.get (.t t)) with
  | some cs => if n≤cs.length then some (.agg (cs.take n)) else none
  | none => none

def resV (st:St) (rs:List ARes):Option V := match optAll (resV1 st) rs with
 | some [v] => some v
 | some vs => some (.tup vs)
 | none => none

def purR (hp:List Blk):V→Option V
 | .tup vs => (optAll (pur hp) vs).map .tup
 | v => pur hp v
def slotsR:V→List Nat
 | .tup vs => vs.flatMap slots
 | v => slots v

def resSem (tmps:Array Value):ResultVar→Sem Value
 | .tmp t => pure (tmps.getD t undef)
 | .cell b t => do loadVar t (← asAddr (tmps.getD b undef))

omit [Laid] in
theorem results_eq (fn:Func) (tmps:Array Value):results fn tmps = (do let vs ← fn.results.mapM (resSem tmps); pure (if h:vs.size = 1 then vs[0] else .tuple vs)) := by
 unfold results
 congr 1

def initSt (F:AFn) (args:List V):St := ⟨args ++ List.replicate (F.nt - args.length) .und,List.replicate F.ns ⟨0,.dead,[]⟩⟩

def Done (R:St→Prop):AEx→St→Prop
 | .exit _,_ => False
 | _,s => R s

section
variable {P:Program} {m:Nat} {w0:World} {S0 Jo:Nat→Prop} {D:Bs} {Φ:Plc} {S:Nat→Prop} {st:St} {a:Act} {w:World}

theorem res1_run (h:Sim m w0 S0 Jo D Φ S st a w) {rv:ResultVar} {ar:ARes} (hc:cRes P rv = some ar) {v:V} (hv:resV1 st ar = some v) :
  ∃ x,((resSem a.tmps) rv).run P w = .ok x w∧VRel Φ S w v x := by
 have tmpR:∀ t,VRel Φ S w (st.get (.t t)) (a.tmps.getD t undef) := fun t => rel_get h (.tmp t)
 cases rv with
 | tmp t =>
  simp only [cRes,sJ] at hc; subst hc
  simp only [resV1,sJ] at hv; subst hv
  exact ⟨_,rfl,tmpR t⟩
 | cell b t =>
  simp only [cRes] at hc
  split at hc
  ·rename_i n ha hn
   simp only [sJ] at hc; subst hc
   simp only [resV1] at hv
   split at hv
   ·rename_i cs hcs
    split at hv
    ·rename_i hle
     simp only [sJ] at hv; subst hv
     obtain ⟨x,w',Φ',S',h1,h2,h3⟩ := give_ldn (P := P) h ha hn (tmpR b) hcs hle
     obtain ⟨c,o,f,he,hf⟩ := behind_rel h (tmpR b) hcs
     rw [he] at h1
     have hl := run_loadCells P (c := c) (o := o) f n 0 w #[] (fun j hj => by
      have hlt:j < cs.length := by omega
      have := (hf j cs[j] (List.getElem?_eq_getElem hlt)).1
      simpa using this)
     refine ⟨.agg (#[] ++ ((List.range' 0 n).map f).toArray),?_,.agg _ _ ?_ ?_⟩
     ·simp only [resSem,he,asAddr,loadVar,Sem.run_bind,Sem.run_pure,Result.andThen_ok,agg_run ha,sz_run hn,if_true]
      simp only [loadCells,hl,Result.andThen_ok]
     ·simp; omega
     ·intro i u hi
      rw [List.getElem?_take] at hi
      split at hi
      ·rename_i hlt
       have e:(#[] ++ ((List.range' 0 n).map f).toArray).getD i undef = f i := by
        simp [Array.getD,hlt]
       rw [e]; exact (hf i u hi).2
      ·cases hi
    ·cases hv
   ·cases hv
  ·rename_i n ha hn
   simp only [sJ] at hc; subst hc
   simp only [resV1] at hv
   split at hv
   ·rename_i cs hcs
    obtain ⟨c,o,f,he,hf⟩ := behind_rel h (tmpR b) hcs
    obtain ⟨h1,h2⟩ := hf 0 v hv
    simp only [Nat.add_zero] at h1
    refine ⟨f 0,?_,h2⟩
    simp [resSem,he,asAddr,loadVar,agg_run ha,h1]
   ·cases hv
  ·cases hc

theorem resL_run (h:Sim m w0 S0 Jo D Φ S st a w):∀ (l:List ResultVar) (rs:List ARes) (vs:List V),optAll (cRes P) l = some rs→optAll (resV1 st) rs = some vs →
  ∃ xs:List Value,(l.mapM (m := Sem) (resSem a.tmps)).run P w = .ok xs w∧xs.length = vs.length ∧
   ∀ (i:Nat) (v:V),vs[i]? = some v→VRel Φ S w v ((xs[i]?).getD undef)
 | [],rs,vs,h1,h2 => by
  simp only [optAll,sJ] at h1; subst h1
  simp only [optAll,sJ] at h2; subst h2
  exact ⟨[],rfl,rfl,by simp⟩
 | r :: l,rs,vs,h1,h2 => by
  simp only [optAll] at h1
  split at h1
  ·rename_i ar ars h3 h4
   simp only [sJ] at h1; subst h1
   simp only [optAll] at h2
   split at h2
   ·rename_i v vs' h5 h6
    simp only [sJ] at h2; subst h2
    obtain ⟨x,k1,k2⟩ := res1_run h h3 h5
    obtain ⟨xs,g1,g2,g3⟩ := resL_run h l ars vs' h4 h6
    refine ⟨x :: xs,?_,by simp [g2],?_⟩
    ·rw [List.mapM_cons,Sem.run_bind,k1,Result.andThen_ok,Sem.run_bind,g1]; rfl
    ·intro i u hi
     match i with
     | 0 => simp at hi; subst hi; exact k2
     | i + 1 => simpa using g3 i u (by simpa using hi)
   ·cases h2
  ·cases h1

theorem results_run (h:Sim m w0 S0 Jo D Φ S st a w) {fn:Func} {rs:List ARes} (hc:optAll (cRes P) fn.results.toList = some rs) {v:V} (hv:resV st rs = some v):∃ x,(results fn a.tmps).run P w = .ok x w∧VRel Φ S w v x := by
 unfold resV at hv
 cases hvs:optAll (resV1 st) rs with
 | none => simp [hvs] at hv
 | some vs =>
  obtain ⟨xs,h1,h2,h3⟩ := resL_run h _ _ _ hc hvs
  have hm:(fn.results.mapM (m := Sem) (resSem a.tmps)).run P w = .ok xs.toArray w := by
   rw [Array.mapM_eq_mapM_toList,Sem.run_map,h1]; rfl
  have hr:(results fn a.tmps).run P w = .ok (if h:xs.toArray.size = 1 then xs.toArray[0] else .tuple xs.toArray) w := by
   rw [results_eq,Sem.run_bind,hm]; rfl
  refine ⟨_,hr,?_⟩
  rw [hvs] at hv
  match vs,xs,h2,h3,hv with
  | [u],[x],_,h3,hv =>
   simp only [sJ] at hv; subst hv
   simpa using h3 0 u rfl
  | [],[],_,_,hv =>
   simp only [sJ] at hv; subst hv
   simpa using VRel.tup [] #[] rfl (by simp)
  | u1 :: u2 :: us,x1 :: x2 :: xs,h2,h3,hv =>
   simp only [sJ] at hv; subst hv
   rw [dif_neg (by simp)]
   refine .tup _ _ (by simpa using h2) fun i c hi => ?_
   rw [getD_of_list]; exact h3 i c hi

theorem purR_rel (h:Sim m w0 S0 Jo D Φ S st a w) {S' : Nat→Prop} (hS:∀ b,S b→S' b) {v v' : V} {x:Value} (hv:VRel Φ S w v x) (hp:purR st.hp v = some v')
  (hf:∀ t∈slotsR v,∀ b c sz,st.hp[t]? = some b→b.st.ok = true→Φ t b.ver = some (.blk c sz)→S' c):VRel Plc0 S' w v' x := by
 cases v with
 | tup vs =>
  simp only [purR,Option.map_eq_some_iff] at hp
  obtain ⟨l,hl,rfl⟩ := hp
  obtain ⟨arr,rfl,hn,hc⟩ := inv_tup hv
  obtain ⟨h1,h2⟩ := optAll_get vs l hl
  refine .tup _ _ (by rw [h1,hn]) fun i c hi => ?_
  obtain ⟨u,hu,hpu⟩ := h2 i c hi
  exact pur_rel h hS (hc i u hu) hpu (fun t ht => hf t (by simp only [slotsR,List.mem_flatMap]; exact ⟨u,List.mem_of_getElem? hu,ht⟩))
 | _ => exact pur_rel h hS hv hp hf

theorem init_sim {F:AFn} {args:List V} {vals:Array Value} (hn:vals.size = args.length) (hv:∀ i v,args[i]? = some v→VRel Plc0 S w v (vals.getD i undef)) (hS:∀ b,S b→b < w.heap.size) (hG:Glob S w) {nt:Nat} (hnt:F.nt = nt) :
  Sim 0 w S (fun _ => False) (Bs0 w.heap.size) Plc0 S (initSt F args) { tmps := vals ++ Array.replicate (nt - vals.size) undef,defers := [] } w := by
 subst hnt
 refine ⟨trivial,⟨fun _ e => e.elim,trivial⟩,by simp [initSt,hn],?_,?_,fun _ _ _ _ _ => rfl,?_,hS,fun _ e => e,fun _ e => .inl e,Fr.refl _ _,fun t ht => absurd ht (Nat.not_lt_zero _),hG⟩
 ·intro t v ht
  simp only [initSt] at ht ⊢
  rw [getD_of_list,Array.toList_append]
  rw [List.getElem?_append] at ht ⊢
  split at ht
  ·rename_i hlt
   rw [if_pos (by simpa [hn] using hlt)]
   have := hv t v ht
   rwa [getD_of_list] at this
  ·rw [List.getElem?_replicate] at ht
   split at ht
   ·simp only [sJ] at ht; subst ht; exact .und _
   ·cases ht
 ·intro t b hb
  simp only [initSt,List.getElem?_replicate] at hb
  split at hb
  ·simp only [sJ] at hb; subst hb; trivial
  ·cases hb
 ·intro t1 t2 b1 b2 c1 s1 c2 s2 _ _ _ _ p1
  cases p1

theorem Sim.take {d:Deferred} {ds:List Deferred} {tmps:Array Value} (h:Sim m w0 S0 Jo D Φ S st ⟨tmps,d :: ds⟩ w) (hlow:w0.heap.size≤D.low) (hlen:∀ n ds ds',D.len n ds→D.len n ds'):∃ r,d.target = .collected r∧(Instr.takeDeferred r).run P w = .ok [] (w.putObj r (.deferred none))∧Sim m w0 S0 Jo D Φ S st ⟨tmps,ds⟩ (w.putObj r (.deferred none)) := by
 obtain ⟨⟨r,h1,h2,h3,h4⟩,h5⟩ := h.defers
 have hne:∀ c arr ty fz,w.heap[c]? = some (.cells arr ty fz)→c ≠ r := fun c arr ty fz e e' => by subst e'; rw [h3] at e; cases e
 have hw:∀ (a:Addr) (v:Value),S a.block→w.cell? a = some v→(w.putObj r (.deferred none)).cell? a = some v := by
  intro a v _ e
  have:a.block ≠ r := by
   intro e'
   simp only [World.cell?,e',h3] at e
   cases e
  rw [cell_block (World.putObj_heap_other this)]; exact e
 have marks:∀ ds:List Deferred,(∀ d'∈ds,d'.target ≠ .collected r)→Marks D.low w ds→Marks D.low (w.putObj r (.deferred none)) ds := by
  intro ds
  induction ds with
  | nil => intro _ _; trivial
  | cons d ds ih =>
   rintro hd ⟨⟨r',k1,k2,k3,k4⟩,k5⟩
   refine ⟨⟨r',k1,k2,(World.putObj_heap_other (fun e => hd d List.mem_cons_self (by rw [k1,e]))).trans k3,k4⟩,ih (fun d' hd' => hd d' (List.mem_cons_of_mem _ hd')) k5⟩
 refine ⟨r,h1,run_takeDeferred h3,marks ds h4 h5,⟨h.same.1,hlen _ _ _ h.same.2⟩,h.size,fun t v hv => (h.ts t v hv).mono2 hw,?_,h.fresh,h.inj,fun b hb => by rw [World.putObj_size]; exact h.Slt b hb,h.Sold,h.Snew,?_,h.io,h.glob.mono2 hw (fun b cs ty fz e => (World.putObj_heap_other (hne _ _ _ _ e)).trans e)⟩
 ·intro t b hb
  have hB := h.hp t b hb
  unfold BRel at hB ⊢
  split at hB
  ·trivial
  ·rcases hB with hB | ⟨c,sz,arr,ty,k1,k2,k3,k4,k5,k6,k7⟩
   ·exact .inl hB
   ·exact .inr ⟨c,sz,arr,ty,k1,(World.putObj_heap_other (hne _ _ _ _ k2)).trans k2,k3,k4,fun i x hx => (k5 i x hx).mono2 hw,k6,k7⟩
  ·rcases hB with hB | ⟨c,sz,k1,k2,arr,ty,fz,k3,k4,k5⟩
   ·exact .inl hB
   ·exact .inr ⟨c,sz,k1,k2,arr,ty,fz,(World.putObj_heap_other (hne _ _ _ _ k3)).trans k3,k4,fun i x hx => (k5 i x hx).mono2 hw⟩
 ·have hf := h.frame
  exact ⟨hf.os,hf.tape,hf.output,by rw [World.putObj_size]; exact hf.size,fun b hb hio => (World.putObj_heap_other (by omega)).trans (hf.block b hb hio)⟩

theorem leaves_marks {fn:Func} {R:Ending→World→Prop} {tmps:Array Value} (hlow:w0.heap.size≤D.low) (hlen:∀ n ds ds',D.len n ds→D.len n ds') (hfin:∀ w',Sim m w0 S0 Jo D Φ S st ⟨tmps,[]⟩ w'→∃ v,(results fn tmps).run P w' = .ok v w'∧R (.returned v) w') :
  ∀ (ds:List Deferred) (w:World),Sim m w0 S0 Jo D Φ S st ⟨tmps,ds⟩ w→LeavesInM (Fw none) 0 P fn tmps R ds .returning w
 | [],w,h => hfin w h
 | d :: ds,w,h => by
  obtain ⟨r,h1,h2,h3⟩ := h.take (P := P) hlow hlen
  exact ⟨by simp,.inl ⟨r,_,h1,h2,leaves_marks hlow hlen hfin ds _ h3⟩⟩

theorem ret_of {f:FuncId} {F:AFn} (hc:cFn P f = some F) {args:List V} {r:V} (h:AWp P 0 F.code (Done fun s => ∃ v,resV s F.res = some v∧purR s.hp v = some r) (initSt F args)):Ret P f args r := by
 intro w S vals hn hv hS hG
 unfold cFn at hc
 split at hc
 ·rename_i fn hfn
  split at hc
  ·rename_i c hb
   split at hc
   ·rename_i ac rs hac hrs
    simp only [sJ] at hc
    subst hc
    refine callsIn_of_wp_marks (F := Fw none) (fn := fn) (c := c) hfn hb trivial ?_ rfl
    refine awp_sound c true ac 0 w S (fun _ => False) (Bs0 w.heap.size) none _ _ _ _ w (fun _ => ⟨rfl,fun _ _ _ e => e⟩) (Nat.le_refl _) hac (fun _ _ e => e) ⟨_,_,init_sim hn hv hS hG rfl⟩ h ?_
    intro e s a' w' hq ⟨Φ,S1,hsim⟩
    have fin:(∃ v,resV s rs = some v∧purR s.hp v = some r)→LeavesInM (Fw none) 0 P fn a'.tmps
      (fun e w' => ∃ x S',e = .returned x∧(∀ b,S b→S' b)∧(∀ b,S' b→S b ∨ w.heap.size≤b)∧(∀ b,S' b→b < w'.heap.size)∧VRel Plc0 S' w' r x∧Fr (fun _ => False) w w') a'.defers .returning w' := by
     rintro ⟨v,h1,h2⟩
     refine leaves_marks (Nat.le_refl _) (fun _ _ _ e => e) ?_ _ _ hsim
     intro w'' hsim
     obtain ⟨x,hx,hvx⟩ := results_run hsim hrs h1
     obtain ⟨S2,g1,g2,g3⟩ := frzAll_sim (slotsR v) S1 s hsim (fun _ _ => Nat.zero_le _)
     exact ⟨x,hx,x,S2,rfl,g3.Sold,fun b hb => (g3.Snew b hb).imp id (fun h => h.resolve_right (fun e => e)),g3.Slt,purR_rel hsim g1 hvx h2 g2,g3.frame⟩
    cases e with
    | normal => exact fin hq
    | ret => exact fin hq
    | exit id => exact hq.elim
   ·cases hc
  ·cases hc
 ·cases hc

def ownV (hp:List Blk) (v:V) (n k:Nat) (ps:List Pv):Prop :=
 (∃ k',v = .p (.sl k' [] true)∧n = 0∧ps = []) ∨ ∃ u b,v = .ref u b.ver 0 n k∧hp[u]? = some b∧b.st = .live∧b.cs = ps.map .p

def LeS (ps qs:List Pv):Prop := qs.length = ps.length∧∀ (i:Nat) (x y:Pv),ps[i]? = some x→qs[i]? = some y→∀ S w v,PRel S w x v→PRel S w y v
omit [Laid] in
theorem LeS.refl (ps:List Pv):LeS ps ps := ⟨rfl,fun i x y h1 h2 => by rw [h1] at h2; injection h2 with h2; subst h2; exact fun _ _ _ h => h⟩
omit [Laid] in
theorem LeS.get {ps qs:List Pv} (h:LeS ps qs) {i:Nat} {y:Pv} (hy:qs[i]? = some y):∃ x,ps[i]? = some x∧∀ S w v,PRel S w x v→PRel S w y v := by
 have hi:i < ps.length := by rw [← h.1]; exact (List.getElem?_eq_some_iff.1 hy).1
 exact ⟨ps[i],List.getElem?_eq_getElem hi,h.2 i _ y (List.getElem?_eq_getElem hi) hy⟩

def wrapV (a:Bool) (v:V):V := match a with
 | true => .agg [v]
 | false => v
omit [Laid] in
theorem wrapV_inv {a:Bool} {Φ:Plc} {S:Nat→Prop} {w:World} {v:V} {x:Value} (h:VRel Φ S w (wrapV a v) x):∃ x0,VRel Φ S w v x0∧∀ (Φ' : Plc) (S' : Nat→Prop) (w' : World) (r:V),VRel Φ' S' w' r x0→VRel Φ' S' w' (wrapV a r) x := by
 cases a with
 | false => exact ⟨x,h,fun _ _ _ _ h => h⟩
 | true =>
  cases h with
  | agg _ arr hn h =>
   refine ⟨arr.getD 0 undef,h 0 v rfl,fun Φ' S' w' r hr => .agg _ _ hn fun i c hi => ?_⟩
   match i,hi with
   | 0,hi =>
    simp only [List.getElem?_cons_zero,sJ] at hi
    subst hi; exact hr
theorem reto_ofG (W:V→V) (hW:∀ {Φ:Plc} {S:Nat→Prop} {w:World} {v:V} {x:Value},VRel Φ S w (W v) x→∃ x0,VRel Φ S w v x0∧∀ (Φ' : Plc) (r:V),VRel Φ' S w r x0→VRel Φ' S w (W r) x) {f:FuncId} {F:AFn} (hc:cFn P f = some F) {args:List V} {n k:Nat} {ps:List Pv} (h:AWp P 0 F.code (Done fun s => ∃ v ps',resV s F.res = some (W v)∧ownV s.hp v n k ps'∧LeS ps' ps) (initSt F args)):RetO P f args (fun t ver => W (.ref t ver 0 n k)) (ps.map .p) := by
 intro w S vals hn hv hS hG
 unfold cFn at hc
 split at hc
 ·rename_i fn hfn
  split at hc
  ·rename_i c hb
   split at hc
   ·rename_i ac rs hac hrs
    simp only [sJ] at hc
    subst hc
    refine callsIn_of_wp_marks (F := Fw none) (fn := fn) (c := c) hfn hb trivial ?_ rfl
    refine awp_sound c true ac 0 w S (fun _ => False) (Bs0 w.heap.size) none _ _ _ _ w (fun _ => ⟨rfl,fun _ _ _ e => e⟩) (Nat.le_refl _) hac (fun _ _ e => e) ⟨_,_,init_sim hn hv hS hG rfl⟩ h ?_
    intro e s a' w' hq ⟨Φ,S1,hsim⟩
    have fin:(∃ v ps',resV s rs = some (W v)∧ownV s.hp v n k ps'∧LeS ps' ps)→LeavesInM (Fw none) 0 P fn a'.tmps
      (fun e w' => ∃ x S' p,e = .returned x∧(∀ b,S b→S' b)∧(∀ b,S' b→S b ∨ w.heap.size≤b)∧(∀ b,S' b→b < w'.heap.size)∧Fr (fun _ => False) w w' ∧
       OwnB S' w w' (ps.map .p) p∧∀ (Φ:Plc) t ver,Φ t ver = some p→VRel Φ S' w' (W (.ref t ver 0 n k)) x) a'.defers .returning w' := by
     rintro ⟨v,ps',h1,h2,hle⟩
     refine leaves_marks (Nat.le_refl _) (fun _ _ _ e => e) ?_ _ _ hsim
     intro w'' hsim
     obtain ⟨x,hx,hvx⟩ := results_run hsim hrs h1
     refine ⟨x,hx,x,S1,?_⟩
     obtain ⟨x0,hvx,back⟩ := hW hvx
     have hnil:ps' = []→ps = [] := fun e => by subst e; exact List.length_eq_zero_iff.1 hle.1
     have hnew:∀ b,S1 b→S b ∨ w.heap.size≤b := fun b hb => (hsim.Snew b hb).imp id (fun h => h.resolve_right (fun e => e))
     rcases h2 with ⟨k',rfl,rfl,rfl⟩ | ⟨u,b,rfl,hb1,hb2,hb3⟩
     ·obtain ⟨base,cap,rfl,_,hcap⟩ := sl_len hvx
      have hc0:cap = 0 := by simpa using hcap rfl
      subst hc0
      exact ⟨.virgin,rfl,hsim.Sold,hnew,hsim.Slt,hsim.frame,.inl ⟨rfl,by rw [hnil rfl]; rfl⟩,fun Φ t ver e => back _ _ (.refv _ _ _ _ e)⟩
     ·have hB := hsim.hp u b hb1
      unfold BRel at hB
      rw [hb2] at hB
      rcases hB with ⟨hB1,hB2⟩ | ⟨c,sz,arr,ty,k1,k2,k3,k4,k5,k6,k7⟩
      ·cases hvx with
       | ref _ _ _ _ _ c sz cap hΦ => rw [hB1] at hΦ; cases hΦ
       | refv _ _ _ a0 hΦ =>
        exact ⟨.virgin,rfl,hsim.Sold,hnew,hsim.Slt,hsim.frame,.inl ⟨rfl,by rw [hnil (by simpa [hB2] using hb3.symm)]; rfl⟩,fun Φ t ver e => back _ _ (.refv _ _ _ _ e)⟩
      ·cases hvx with
       | refv _ _ _ a0 hΦ => rw [k1] at hΦ; cases hΦ
       | ref _ _ _ _ _ c' sz' cap hΦ hn' hcap =>
        rw [k1] at hΦ; injection hΦ with hΦ; injection hΦ with e1 e2
        subst e1 e2
        refine ⟨.blk c sz,rfl,hsim.Sold,hnew,hsim.Slt,hsim.frame,.inr ⟨c,sz,arr,ty,rfl,k2,k3,by rw [List.length_map,hle.1,← List.length_map (f := V.p),← hb3]; exact k4,fun i y hy => ?_,k6,k7.resolve_left (fun e => e)⟩,fun Φ' t ver e => back _ _ (.ref _ _ _ _ _ c sz cap e hn' hcap)⟩
        rw [List.getElem?_map] at hy
        cases hq:ps[i]? with
        | none => simp [hq] at hy
        | some q =>
         simp only [hq,Option.map_some,sJ] at hy; subst hy
         obtain ⟨z,hz,hzr⟩ := hle.get hq
         have hy' := k5 i (.p z) (by rw [hb3,List.getElem?_map,hz]; rfl)
         cases hy' with | p _ _ h => exact .p _ _ (hzr _ _ _ h)
    cases e with
    | normal => exact fin hq
    | ret => exact fin hq
    | exit id => exact hq.elim
   ·cases hc
  ·cases hc
 ·cases hc
theorem reto_ofW (a:Bool) {f:FuncId} {F:AFn} (hc:cFn P f = some F) {args:List V} {n k:Nat} {ps:List Pv} (h:AWp P 0 F.code (Done fun s => ∃ v ps',resV s F.res = some (wrapV a v)∧ownV s.hp v n k ps'∧LeS ps' ps) (initSt F args)):RetO P f args (fun t ver => wrapV a (.ref t ver 0 n k)) (ps.map .p) :=
 reto_ofG (wrapV a) (fun h => by obtain ⟨x0,h1,h2⟩ := wrapV_inv h; exact ⟨x0,h1,fun _ _ => h2 _ _ _ _⟩) hc h
theorem reto_of {f:FuncId} {F:AFn} (hc:cFn P f = some F) {args:List V} {n k:Nat} {ps:List Pv} (h:AWp P 0 F.code (Done fun s => ∃ v ps',resV s F.res = some v∧ownV s.hp v n k ps'∧LeS ps' ps) (initSt F args)):RetO P f args (fun t ver => .ref t ver 0 n k) (ps.map .p) := reto_ofW false hc h
end
end Go.Mx
