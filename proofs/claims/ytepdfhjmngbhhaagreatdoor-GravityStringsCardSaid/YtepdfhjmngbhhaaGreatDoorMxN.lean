/- Layers of the walk: abstract values, operations, calls, loops, and what they do. No condition. -/
import Derived.Test.YtepdfhjmngbhhaaGreatDoorLayA
namespace Go.Mx
variable [Laid]
open Go.RowKit

abbrev Plc0:Plc := fun _ _ => none

def Ret (P:Program) (f:FuncId) (args:List V) (r:V):Prop :=
 ∀ (w:World) (S:Nat→Prop) (vals:Array Value),vals.size = args.length→(∀ i v,args[i]? = some v→VRel Plc0 S w v (vals.getD i undef))→(∀ b,S b→b < w.heap.size)→Glob S w →
  CallsIn Fence.wide 0 P f vals w (fun e w' => ∃ x S',e = .returned x∧(∀ b,S b→S' b)∧(∀ b,S' b→S b ∨ w.heap.size≤b)∧(∀ b,S' b→b < w'.heap.size)∧VRel Plc0 S' w' r x∧Fr (fun _ => False) w w')

def OwnB (S' : Nat→Prop) (w w' : World) (cs:List V) (p:Pl):Prop :=
 (p = .virgin∧cs = []) ∨ ∃ c sz arr ty,p = .blk c sz∧w'.heap[c]? = some (.cells arr ty (0,0))∧arr.size = sz∧cs.length≤sz∧(∀ i x,cs[i]? = some x→VRel Plc0 S' w' x (arr.getD i undef))∧¬ S' c∧w.heap.size≤c

def RetO (P:Program) (f:FuncId) (args:List V) (r:Nat→Nat→V) (cs:List V):Prop :=
 ∀ (w:World) (S:Nat→Prop) (vals:Array Value),vals.size = args.length→(∀ i v,args[i]? = some v→VRel Plc0 S w v (vals.getD i undef))→(∀ b,S b→b < w.heap.size)→Glob S w →
  CallsIn Fence.wide 0 P f vals w (fun e w' => ∃ x S' p,e = .returned x∧(∀ b,S b→S' b)∧(∀ b,S' b→S b ∨ w.heap.size≤b)∧(∀ b,S' b→b < w'.heap.size)∧Fr (fun _ => False) w w' ∧
   OwnB S' w w' cs p∧∀ (Φ:Plc) t ver,Φ t ver = some p→VRel Φ S' w' (r t ver) x)

def PlcM (c sz:Nat):Plc := fun t ver => if t = 0∧ver = 0 then some (.blk c sz) else none

def RetM (P:Program) (f:FuncId) (args:List V) (ps:List Pv) (r:V) (ps' : List Pv):Prop :=
 ∀ (w:World) (S:Nat→Prop) (vals:Array Value) (c sz:Nat) (arr:Array Value) (ty:TypeId),w.heap[c]? = some (.cells arr ty (0,0))→arr.size = sz→ps.length≤sz→(∀ (i:Nat) (x:Pv),ps[i]? = some x→PRel S w x (arr.getD i undef))→¬ S c →
  vals.size = args.length→(∀ i v,args[i]? = some v→VRel (PlcM c sz) S w v (vals.getD i undef))→(∀ b,S b→b < w.heap.size)→Glob S w →
  CallsIn Fence.wide 0 P f vals w (fun e w' => ∃ x S',e = .returned x∧(∀ b,S b→S' b)∧(∀ b,S' b→S b ∨ w.heap.size≤b)∧(∀ b,S' b→b < w'.heap.size)∧VRel Plc0 S' w' r x∧Fr (fun b => b = c) w w' ∧
   ¬ S' c∧∃ arr' ty',w'.heap[c]? = some (.cells arr' ty' (0,0))∧arr'.size = sz∧ps'.length≤sz∧∀ (i:Nat) (x:Pv),ps'[i]? = some x→PRel S' w' x (arr'.getD i undef))

def PlcN (bl:List (Nat×Nat)):Plc := fun t ver => if ver = 0 then (bl[t]?).map fun p => .blk p.1 p.2 else none
def BlksAt (S:Nat→Prop) (w:World) (bl:List (Nat×Nat)) (pss:List (List Pv)):Prop :=
 bl.length = pss.length∧∀ (i c sz:Nat) (ps:List Pv),bl[i]? = some (c,sz)→pss[i]? = some ps →
  ¬ S c∧∃ arr ty,w.heap[c]? = some (.cells arr ty (0,0))∧arr.size = sz∧ps.length≤sz∧∀ (j:Nat) (x:Pv),ps[j]? = some x→PRel S w x (arr.getD j undef)
def RetN (P:Program) (f:FuncId) (args:List V) (pss:List (List Pv)) (r:V) (pss' : List (List Pv)):Prop :=
 ∀ (w:World) (S:Nat→Prop) (vals:Array Value) (bl:List (Nat×Nat)),(∀ (i j:Nat) (a b:Nat×Nat),bl[i]? = some a→bl[j]? = some b→i ≠ j→a.1 ≠ b.1)→BlksAt S w bl pss →
  vals.size = args.length→(∀ i v,args[i]? = some v→VRel (PlcN bl) S w v (vals.getD i undef))→(∀ b,S b→b < w.heap.size)→Glob S w →
  CallsIn Fence.wide 0 P f vals w (fun e w' => ∃ x S',e = .returned x∧(∀ b,S b→S' b)∧(∀ b,S' b→S b ∨ w.heap.size≤b)∧(∀ b,S' b→b < w'.heap.size)∧VRel Plc0 S' w' r x∧Fr (fun b => ∃ (i sz:Nat),bl[i]? = some (b,sz)) w w'∧BlksAt S' w' bl pss')

def purC (hp:List Blk):V→Option Pv
 | .p x => some x
 | .ref t ver o n k => (sliceP hp k (.ref t ver o n k)).map fun es => .sl k es false
 | _ => none

def capP (hp:List Blk) (v:V):Option (List Pv) := match behind hp v with
 | some cs => allP cs
 | none => none

def optAll {α β:Type} (f:α→Option β):List α→Option (List β)
 | [] => some []
 | x :: r => match f x,optAll f r with
  | some y,some s => some (y :: s)
  | _,_ => none

def pur (hp:List Blk):V→Option V
 | .p x => some (.p x)
 | .agg cs => (optAll (purC hp) cs).map fun l => .agg (l.map .p)
 | .ref t ver o n k => (sliceP hp k (.ref t ver o n k)).map fun es => .p (.sl k es false)
 | .ptr t ver o => (capP hp (.ptr t ver o)).map .ipt
 | .ipt cs => some (.ipt cs)
 | .clo f caps => (optAll (capP hp) caps).map fun l => .p (.fn f l)
 | .und => some .und
 | .tup _ | .opt _ _ | .no | .yld _ | .ub _ => none

def slotC:V→List Nat
 | .ref t _ _ _ _ => [t]
 | .ptr t _ _ => [t]
 | _ => []
def slots:V→List Nat
 | .agg cs => cs.flatMap slotC
 | .clo _ cs => cs.flatMap slotC
 | v => slotC v

def frz1 (hp:List Blk) (t:Nat):List Blk := match hp[t]? with
 | some b => if b.st.isLive then hp.set t ⟨b.ver,.frozen,b.cs⟩ else hp
 | none => hp
def frzAll (hp:List Blk):List Nat→List Blk
 | [] => hp
 | t :: r => frzAll (frz1 hp t) r

def ioV (u ver:Nat) (hp:List Blk):V→Option V
 | .ptr t ver' o => if t = u∧ver' = ver then some (.ptr 0 0 o) else pur hp (.ptr t ver' o)
 | v => pur hp v
def ioS (u ver:Nat):V→List Nat
 | .ptr t ver' _ => if t = u∧ver' = ver then [] else [t]
 | v => slots v

def idxU (us:List (Nat×Blk)) (t:Nat):Option Nat := us.findIdx? fun q => q.1 == t
def verU (us:List (Nat×Blk)) (t ver:Nat):Option Nat := match idxU us t with
 | some i => match us[i]? with
  | some q => if q.2.ver = ver then some i else none
  | none => none
 | none => none
def ioVN (us:List (Nat×Blk)) (hp:List Blk):V→Option V
 | .ptr t ver o => match verU us t ver with
  | some i => some (.ptr i 0 o)
  | none => pur hp (.ptr t ver o)
 | .ref t ver o n k => match verU us t ver with
  | some i => some (.ref i 0 o n k)
  | none => pur hp (.ref t ver o n k)
 | v => pur hp v
def ioSN (us:List (Nat×Blk)):V→List Nat
 | .ptr t ver _ => match verU us t ver with
  | some _ => []
  | none => [t]
 | .ref t ver _ _ _ => match verU us t ver with
  | some _ => []
  | none => [t]
 | v => slots v
def setAll (hp:List Blk):List (Nat×Blk)→List (List Pv)→List Blk
 | q :: us,ps :: pss => setAll (hp.set q.1 ⟨q.2.ver,.live,ps.map .p⟩) us pss
 | _,_ => hp

inductive CallR (P:Program) (m s:Nat) (hp:List Blk) (f:FuncId) (args:List V):V→List Blk→Prop
 | pure (as:List V) (r:V) (h:optAll (pur hp) args = some as) (hm:((args.flatMap slots).all fun t => decide (m≤t)) = true) (hr:Ret P f as r):CallR P m s hp f args r (frzAll hp (args.flatMap slots))
 | own (as:List V) (r:Nat→Nat→V) (cs:List V) (b:Blk) (h:optAll (pur hp) args = some as) (hm:((args.flatMap slots).all fun t => decide (m≤t)) = true) (hr:RetO P f as r cs)
   (hb:(frzAll hp (args.flatMap slots))[s]? = some b):CallR P m s hp f args (r s (b.ver + 1)) ((frzAll hp (args.flatMap slots)).set s ⟨b.ver + 1,.live,cs⟩)
 | io (as:List V) (r:V) (u:Nat) (b:Blk) (ps ps' : List Pv) (hu:u∈args.flatMap slots) (hb:hp[u]? = some b) (hl:b.st = .live) (h0:0 < b.cs.length) (hps:allP b.cs = some ps) (h:optAll (ioV u b.ver hp) args = some as)
   (hm:((args.flatMap (ioS u b.ver)).all fun t => decide (m≤t) && t != u) = true) (hr:RetM P f as ps r ps'):CallR P m s hp f args r ((frzAll hp (args.flatMap (ioS u b.ver))).set u ⟨b.ver,.live,ps'.map .p⟩)
 | ion (as:List V) (r:V) (us:List (Nat×Blk)) (pss pss' : List (List Pv)) (hnd:(us.map (·.1)).Nodup) (hu:∀ q∈us,q.1∈args.flatMap slots) (hb:∀ q∈us,hp[q.1]? = some q.2∧q.2.st = .live∧0 < q.2.cs.length) (hps:optAll (fun q:Nat×Blk => allP q.2.cs) us = some pss)
   (h:optAll (ioVN us hp) args = some as) (hm:((args.flatMap (ioSN us)).all fun t => decide (m≤t) && !(us.map (·.1)).contains t) = true) (hr:RetN P f as pss r pss'):CallR P m s hp f args r (setAll (frzAll hp (args.flatMap (ioSN us))) us pss')

section
variable {P:Program} {m:Nat} {w0:World} {S0 Jo:Nat→Prop} {D:Bs} {Φ:Plc} {S:Nat→Prop} {st:St} {a:Act} {w:World}

theorem frz1_sim (h:Sim m w0 S0 Jo D Φ S st a w) {t:Nat} (ht:m≤t) :
  ∃ S',(∀ b,S b→S' b)∧(∀ b c sz,st.hp[t]? = some b→b.st.ok = true→Φ t b.ver = some (.blk c sz)→S' c)∧Sim m w0 S0 Jo D Φ S' ⟨st.ts,frz1 st.hp t⟩ a w := by
 unfold frz1
 cases hb:st.hp[t]? with
 | none => exact ⟨S,fun _ e => e,by simp,h⟩
 | some b =>
  simp only
  by_cases hl:b.st.isLive = true
  ·have hl' : b.st = .live := by cases hbs:b.st <;> simp_all [BSt.isLive]
   obtain ⟨S',h1,h2,h3⟩ := h.freeze hb hl' ht
   rw [if_pos hl]
   refine ⟨S',h1,?_,h3⟩
   intro b' c sz e hok hp
   simp only [sJ] at e; subst e
   exact h2 c sz hp
  ·rw [if_neg hl]
   refine ⟨S,fun _ e => e,?_,h⟩
   intro b' c sz e hok hp
   simp only [sJ] at e; subst e
   have hB := h.hp t b hb
   unfold BRel at hB
   cases hbs:b.st with
   | dead => rw [hbs] at hok; cases hok
   | live => rw [hbs] at hl; exact absurd rfl hl
   | frozen =>
    rw [hbs] at hB
    rcases hB with ⟨hB,_⟩ | ⟨c',sz',q1,q2,_⟩
    ·rw [hB] at hp; cases hp
    ·rw [q1] at hp; injection hp with hp; injection hp with e1 e2
     subst e1; exact q2

omit [Laid] in
theorem frz1_get {hp:List Blk} {t t' : Nat} {b:Blk} (h:hp[t']? = some b):∃ b',(frz1 hp t)[t']? = some b'∧b'.ver = b.ver∧b'.st.ok = b.st.ok∧b'.cs = b.cs := by
 unfold frz1
 cases hb:hp[t]? with
 | none => exact ⟨b,h,rfl,rfl,rfl⟩
 | some b2 =>
  simp only
  split
  ·rename_i hl
   by_cases e:t = t'
   ·subst e
    rw [hb] at h; injection h with h; subst h
    have hlt := (List.getElem?_eq_some_iff.1 hb).1
    refine ⟨⟨b2.ver,.frozen,b2.cs⟩,by simp [hlt],rfl,?_,rfl⟩
    cases hs:b2.st <;> simp_all [BSt.isLive,BSt.ok]
   ·exact ⟨b,by rw [List.getElem?_set,if_neg e]; exact h,rfl,rfl,rfl⟩
  ·exact ⟨b,h,rfl,rfl,rfl⟩

theorem frzAll_sim:∀ (ts:List Nat) (S:Nat→Prop) (st:St),Sim m w0 S0 Jo D Φ S st a w→(∀ t∈ts,m≤t) →
  ∃ S',(∀ b,S b→S' b)∧(∀ t∈ts,∀ b c sz,st.hp[t]? = some b→b.st.ok = true→Φ t b.ver = some (.blk c sz)→S' c)∧Sim m w0 S0 Jo D Φ S' ⟨st.ts,frzAll st.hp ts⟩ a w
 | [],S,st,h,_ => ⟨S,fun _ e => e,by simp,h⟩
 | t :: ts,S,st,h,hm => by
  obtain ⟨S1,h1,h2,h3⟩ := frz1_sim h (hm t (by simp))
  obtain ⟨S2,g1,g2,g3⟩ := frzAll_sim ts S1 ⟨st.ts,frz1 st.hp t⟩ h3 (fun t ht => hm t (by simp [ht]))
  refine ⟨S2,fun b e => g1 b (h1 b e),?_,g3⟩
  intro t' ht' b c sz hb hok hp
  rcases List.mem_cons.1 ht' with rfl | ht'
  ·exact g1 c (h2 b c sz hb hok hp)
  ·obtain ⟨b',e1,e2,e3,e4⟩ := frz1_get (t := t) hb
   exact g2 t' ht' b' c sz e1 (by rw [e3]; exact hok) (by rw [e2]; exact hp)

theorem sliceP_pure (h:Sim m w0 S0 Jo D Φ S st a w) {S' : Nat→Prop} (hS:∀ b,S b→S' b) {t ver o n k:Nat} {x:Value} (hv:VRel Φ S w (.ref t ver o n k) x) {es:List (List Pv)} (hs:sliceP st.hp k (.ref t ver o n k) = some es)
  (hf:∀ b c sz,st.hp[t]? = some b→b.st.ok = true→Φ t b.ver = some (.blk c sz)→S' c):PRel S' w (.sl k es false) x := by
 simp only [sliceP] at hs
 split at hs
 ·rename_i b hb
  split at hs
  ·rename_i hc
   obtain ⟨rfl,hok,_,hle⟩ := hc
   cases hps:allP ((b.cs.drop o).take (n * k)) with
   | none => simp [hps] at hs
   | some ps =>
    simp only [hps,Option.map_some,sJ] at hs
    subst hs
    have hmap := allP_map hps
    have hpl:ps.length = n * k := by
     have := congrArg List.length hmap
     simp at this; omega
    cases hv with
    | ref _ _ _ _ _ c sz cap hΦ hn hcap =>
     obtain ⟨arr,ty,fz,k1,k2,k3⟩ := cells_at h hb hok hΦ
     refine slice_rel false (hf b c sz hb hok hΦ) (by omega) hn (fun e => by cases e) ?_
     intro j p hp
     have hj:j < n * k := by rw [← hpl]; exact (List.getElem?_eq_some_iff.1 hp).1
     have e0:b.cs[o + j]? = some (.p p) := by
      have e1:((b.cs.drop o).take (n * k))[j]? = some (.p p) := by rw [hmap,List.getElem?_map,hp]; rfl
      rw [List.getElem?_take,if_pos hj,List.getElem?_drop] at e1; exact e1
     have := k3 _ _ e0
     refine ⟨_,cell_getD k1 (by omega),?_⟩
     cases this with | p _ _ h => exact h.mono hS (fun _ _ => rfl)
    | refv _ _ _ a0 hΦ =>
     cases a0 with
     | none => exact .slnil _ _
     | some ad => exact .sl0 _ _ _ _ (fun e => by cases e)
  ·cases hs
 ·cases hs

theorem capP_pure (h:Sim m w0 S0 Jo D Φ S st a w) {S' : Nat→Prop} (hS:∀ b,S b→S' b) {v:V} {x:Value} (hv:VRel Φ S w v x) {ps:List Pv} (hs:capP st.hp v = some ps)
  (hf:∀ t∈slotC v,∀ b c sz,st.hp[t]? = some b→b.st.ok = true→Φ t b.ver = some (.blk c sz)→S' c) :
  ∃ (b o:Nat) (cell:Nat→Value),x = .pointer (some ⟨b,o,none⟩)∧S' b∧(∀ j x,ps[j]? = some x→w.cell? ⟨b,o + j,none⟩ = some (cell j))∧(∀ j x,ps[j]? = some x→PRel S' w x (cell j)) := by
 simp only [capP] at hs
 split at hs
 ·rename_i cs hcs
  have hmap := allP_map hs
  obtain ⟨c,o,f,rfl,hcell⟩ := behind_rel h hv hcs
  have hSc:S' c := by
   cases hv with
   | ptr t ver _ c' sz hΦ =>
    simp only [behind] at hcs
    split at hcs
    ·rename_i b hb
     split at hcs
     ·rename_i hcond
      obtain ⟨rfl,hok,_⟩ := hcond
      exact hf t (by simp [slotC]) b _ _ hb hok hΦ
     ·cases hcs
    ·cases hcs
   | ipt _ b o' cell hs' h1 h2 => exact hS _ hs'
   | _ => simp [behind] at hcs
  refine ⟨c,o,f,rfl,hSc,fun j p hp => ?_,fun j p hp => ?_⟩
  ·exact (hcell j (.p p) (by rw [hmap,List.getElem?_map,hp]; rfl)).1
  ·have := (hcell j (.p p) (by rw [hmap,List.getElem?_map,hp]; rfl)).2
   cases this with | p _ _ h => exact h.mono hS (fun _ _ => rfl)
 ·cases hs

omit [Laid] in
theorem optAll_get {α β:Type} {f:α→Option β}:∀ (l:List α) (r:List β),optAll f l = some r→r.length = l.length∧∀ (i:Nat) (y:β),r[i]? = some y→∃ x,l[i]? = some x∧f x = some y
 | [],r,h => by simp [optAll] at h; subst h; simp
 | x :: l,r,h => by
  simp only [optAll] at h
  split at h
  ·rename_i y s hy hs
   simp only [sJ] at h; subst h
   obtain ⟨h1,h2⟩ := optAll_get l s hs
   refine ⟨by simp [h1],fun i z hz => ?_⟩
   match i with
   | 0 => simp at hz; subst hz; exact ⟨x,rfl,hy⟩
   | i + 1 => simpa using h2 i z (by simpa using hz)
  ·cases h

theorem pur_rel (h:Sim m w0 S0 Jo D Φ S st a w) {S' : Nat→Prop} (hS:∀ b,S b→S' b) {v v' : V} {x:Value} (hv:VRel Φ S w v x) (hp:pur st.hp v = some v')
  (hf:∀ t∈slots v,∀ b c sz,st.hp[t]? = some b→b.st.ok = true→Φ t b.ver = some (.blk c sz)→S' c):VRel Plc0 S' w v' x := by
 cases v with
 | p y =>
  simp only [pur,sJ] at hp; subst hp
  cases hv with | p _ _ h' => exact .p _ _ (h'.mono hS (fun _ _ => rfl))
 | agg cs =>
  cases hl:optAll (purC st.hp) cs with
  | none => simp [pur,hl] at hp
  | some l =>
   simp only [pur,hl,Option.map_some,sJ] at hp; subst hp
   obtain ⟨arr,rfl,hn,hc⟩ := inv_agg hv
   obtain ⟨h1,h2⟩ := optAll_get cs l hl
   refine .agg _ _ (by simp [h1,hn]) fun i c hi => ?_
   rw [List.getElem?_map] at hi
   cases hy:l[i]? with
   | none => simp [hy] at hi
   | some y =>
    simp only [hy,Option.map_some,sJ] at hi; subst hi
    obtain ⟨u,hu,hpu⟩ := h2 i y hy
    have hr := hc i u hu
    cases u with
    | p z =>
     simp only [purC,sJ] at hpu; subst hpu
     cases hr with | p _ _ h' => exact .p _ _ (h'.mono hS (fun _ _ => rfl))
    | ref t ver o n k =>
     cases hs:sliceP st.hp k (.ref t ver o n k) with
     | none => simp [purC,hs] at hpu
     | some es =>
      simp only [purC,hs,Option.map_some,sJ] at hpu; subst hpu
      refine .p _ _ (sliceP_pure h hS hr hs (hf t ?_))
      simp only [slots,List.mem_flatMap]
      exact ⟨_,List.mem_of_getElem? hu,by simp [slotC]⟩
    | _ => simp [purC] at hpu
 | tup => simp [pur] at hp
 | opt => simp [pur] at hp
 | no => simp [pur] at hp
 | yld => simp [pur] at hp
 | ub => simp [pur] at hp
 | ptr t ver o =>
  cases hs:capP st.hp (.ptr t ver o) with
  | none => simp [pur,hs] at hp
  | some ps =>
   simp only [pur,hs,Option.map_some,sJ] at hp; subst hp
   obtain ⟨b,o',cell,rfl,h1,h2,h3⟩ := capP_pure h hS hv hs (by simpa [slots] using hf)
   exact .ipt _ b o' cell h1 h2 h3
 | ipt cs =>
  simp only [pur,sJ] at hp; subst hp
  exact (by
   obtain ⟨b,o',cell,rfl,h1,h2,h3⟩ := inv_ipt hv
   exact .ipt _ b o' cell (hS _ h1) h2 (fun j x hx => (h3 j x hx).mono hS (fun _ _ => rfl)))
 | ref t ver o n k =>
  cases hs:sliceP st.hp k (.ref t ver o n k) with
  | none => simp [pur,hs] at hp
  | some es =>
   simp only [pur,hs,Option.map_some,sJ] at hp; subst hp
   exact .p _ _ (sliceP_pure h hS hv hs (hf t (by simp [slots,slotC])))
 | clo f caps =>
  cases hl:optAll (capP st.hp) caps with
  | none => simp [pur,hl] at hp
  | some l =>
   simp only [pur,hl,Option.map_some,sJ] at hp; subst hp
   cases hv with
   | clo _ _ arr hf' hn hc =>
    obtain ⟨h1,h2⟩ := optAll_get caps l hl
    have key:∀ i,∃ q:Nat×Nat×(Nat→Value),∀ e,l[i]? = some e→arr.getD i undef = .pointer (some ⟨q.1,q.2.1,none⟩)∧S' q.1∧(∀ j x,e[j]? = some x→w.cell? ⟨q.1,q.2.1 + j,none⟩ = some (q.2.2 j))∧(∀ j x,e[j]? = some x→PRel S' w x (q.2.2 j)) := by
     intro i
     cases he:l[i]? with
     | none => exact ⟨⟨0,0,fun _ => undef⟩,by simp⟩
     | some e =>
      obtain ⟨u,hu,hpu⟩ := h2 i e he
      obtain ⟨b,o',cell,k1,k2,k3,k4⟩ := capP_pure h hS (hc i u hu) hpu (fun t ht => hf t (by simp only [slots,List.mem_flatMap]; exact ⟨u,List.mem_of_getElem? hu,ht⟩))
      exact ⟨⟨b,o',cell⟩,fun e' h' => by injection h' with h'; subst h'; exact ⟨k1,k2,k3,k4⟩⟩
    refine .p _ _ (.fn f l arr hf' (fun i => (Classical.choose (key i)).1) (fun i => (Classical.choose (key i)).2.1) (fun i => (Classical.choose (key i)).2.2) (by rw [hn,h1]) ?_ ?_ ?_ ?_)
    ·intro i e he; exact (Classical.choose_spec (key i) e he).2.1
    ·intro i e he; exact (Classical.choose_spec (key i) e he).1
    ·intro i j e x he hx; exact (Classical.choose_spec (key i) e he).2.2.1 j x hx
    ·intro i j e x he hx; exact (Classical.choose_spec (key i) e he).2.2.2 j x hx
 | und =>
  simp only [pur,sJ] at hp; subst hp
  exact .und _

omit [Laid] in
theorem frz1_other' {hp:List Blk} {t u:Nat} (h:u ≠ t):(frz1 hp t)[u]? = hp[u]? := by
 unfold frz1; split
 ·split
  ·rw [List.getElem?_set,if_neg (fun e => h e.symm)]
  ·rfl
 ·rfl
omit [Laid] in
theorem frzAll_other' : ∀ (ts:List Nat) (hp:List Blk) (u:Nat),u ∉ ts→(frzAll hp ts)[u]? = hp[u]?
 | [],_,_,_ => rfl
 | t :: ts,hp,u,h => by
  simp only [List.mem_cons,not_or] at h
  rw [frzAll,frzAll_other' ts _ u h.2,frz1_other' h.1]

theorem Sim.over (h:Sim m w0 S0 Jo D Φ S st a w) {u:Nat} {b:Blk} (hb:st.hp[u]? = some b) (hl:b.st = .live) {c sz:Nat} (hp:Φ u b.ver = some (.blk c sz)) {S' : Nat→Prop} {w' : World} (ho:w'.os = w.os) (ht:w'.tape = w.tape) (hpr:w'.output = w.output)
  (hs:w.heap.size≤w'.heap.size) (hblk:∀ x,x < w.heap.size→x ≠ c→w'.heap[x]? = w.heap[x]?) (hS:∀ b,S b→S' b) (hS2:∀ b,S' b→S b ∨ w.heap.size≤b) (hS3:∀ b,S' b→b < w'.heap.size) (hSc:¬ S' c)
  {arr' : Array Value} {ty' : TypeId} (hc:w'.heap[c]? = some (.cells arr' ty' (0,0))) (hsz:arr'.size = sz) {cs' : List V} (hn:cs'.length≤sz) (hcs:∀ (i:Nat) (x:V),cs'[i]? = some x→VRel Φ S' w' x (arr'.getD i undef)) :
  Sim m w0 S0 Jo D Φ S' ⟨st.ts,st.hp.set u ⟨b.ver,.live,cs'⟩⟩ a w' := by
 obtain ⟨arr,ty,k1,k2,k3,k4,k5,k6⟩ := live_of h hb hl hp
 have hne:∀ x,S x→x ≠ c := fun x hx e => k5 (e ▸ hx)
 have hw:∀ x,S x→w'.heap[x]? = w.heap[x]? := fun x hx => hblk x (h.Slt x hx) (hne x hx)
 have hlt:∀ c o,w.heap[c]? = some o→c < w.heap.size := fun c o e => (Array.getElem?_eq_some_iff.1 e).1
 have hget:∀ t' b',(st.hp.set u ⟨b.ver,.live,cs'⟩)[t']? = some b'→(t' = u∧b' = ⟨b.ver,.live,cs'⟩) ∨ (t' ≠ u∧st.hp[t']? = some b') := by
  intro t' b' e
  rw [List.getElem?_set] at e
  by_cases e' : u = t'
  ·subst e'
   rw [if_pos rfl] at e
   split at e
   ·left; exact ⟨rfl,by simpa using e.symm⟩
   ·cases e
  ·rw [if_neg e'] at e; exact .inr ⟨fun x => e' x.symm,e⟩
 refine ⟨marks_only k1 hblk h.defers,h.same,h.size,fun t v hv => (h.ts t v hv).mono (fun _ _ _ e => e) hS hw,?_,?_,?_,hS3,fun b hb' => hS b (h.Sold b hb'),?_,?_,h.io,h.glob.mono hS hw⟩
 ·intro t b' hb'
  rcases hget t b' hb' with ⟨rfl,rfl⟩ | ⟨hne',hb'⟩
  ·unfold BRel
   exact .inr ⟨c,sz,arr',ty',hp,hc,hsz,hn,hcs,hSc,k6⟩
  ·have hB := h.hp t b' hb'
   unfold BRel at hB ⊢
   split at hB
   ·trivial
   ·rename_i hl'
    rcases hB with hB | ⟨c1,sz1,arr1,ty1,h1,h2,h3,h4,h5,h6,h7⟩
    ·exact .inl hB
    ·have hcne:c1 ≠ c := h.inj t u b' b c1 sz1 c sz hb' hb hl' hl h1 hp hne'
     refine .inr ⟨c1,sz1,arr1,ty1,h1,(hblk c1 (hlt _ _ h2) hcne).trans h2,h3,h4,fun i x hx => (h5 i x hx).mono (fun _ _ _ e => e) hS hw,?_,h7⟩
     intro hc'
     rcases hS2 c1 hc' with hc' | hc'
     ·exact h6 hc'
     ·have := hlt _ _ h2; omega
   ·rcases hB with hB | ⟨c1,sz1,h1,h2,arr1,ty1,fz,h3,h4,h5⟩
    ·exact .inl hB
    ·exact .inr ⟨c1,sz1,h1,hS c1 h2,arr1,ty1,fz,(hblk c1 (hlt _ _ h3) (hne _ h2)).trans h3,h4,fun i x hx => (h5 i x hx).mono (fun _ _ _ e => e) hS hw⟩
 ·intro t b' ver hb' hv
  rcases hget t b' hb' with ⟨rfl,rfl⟩ | ⟨_,hb'⟩
  ·exact h.fresh _ b _ hb hv
  ·exact h.fresh _ b' _ hb' hv
 ·intro t1 t2 b1 b2 c1 s1 c2 s2 g1 g2 l1 l2 p1 p2 hne12
  dsimp only at g1 g2
  rcases hget t1 b1 g1 with ⟨rfl,rfl⟩ | ⟨_,q1⟩
  ·rcases hget t2 b2 g2 with ⟨rfl,rfl⟩ | ⟨_,q2⟩
   ·exact absurd rfl hne12
   ·exact h.inj _ _ _ _ _ _ _ _ hb q2 hl l2 p1 p2 hne12
  ·rcases hget t2 b2 g2 with ⟨rfl,rfl⟩ | ⟨_,q2⟩
   ·exact h.inj _ _ _ _ _ _ _ _ q1 hb l1 hl p1 p2 hne12
   ·exact h.inj _ _ _ _ _ _ _ _ q1 q2 l1 l2 p1 p2 hne12
 ·intro b hb'
  rcases hS2 b hb' with h' | h'
  ·exact h.Snew b h'
  ·exact .inr (.inl (Nat.le_trans h.frame.size h'))
 ·refine ⟨ho.trans h.frame.os,ht.trans h.frame.tape,hpr.trans h.frame.output,Nat.le_trans h.frame.size hs,fun x hx hio => ?_⟩
  have hxc:x ≠ c := by
   rintro rfl
   rcases k6 with k6 | k6
   ·exact hio k6
   ·omega
  exact (hblk x (Nat.lt_of_lt_of_le hx h.frame.size) hxc).trans (h.frame.block x hx hio)

theorem Sim.overs (h:Sim m w0 S0 Jo D Φ S st a w) {C:Nat→Prop} {S' : Nat→Prop} {w' : World} {hp' : List Blk} (ho:w'.os = w.os) (ht:w'.tape = w.tape) (hpr:w'.output = w.output) (hs:w.heap.size≤w'.heap.size)
  (hC:∀ c,C c→∃ t b sz,st.hp[t]? = some b∧b.st = .live∧Φ t b.ver = some (.blk c sz)) (hblk:∀ x,x < w.heap.size→¬ C x→w'.heap[x]? = w.heap[x]?) (hS:∀ b,S b→S' b) (hS2:∀ b,S' b→S b ∨ w.heap.size≤b) (hS3:∀ b,S' b→b < w'.heap.size)
  (hget:∀ t b',hp'[t]? = some b'→(∃ b c sz arr' ty',st.hp[t]? = some b∧b.st = .live∧Φ t b.ver = some (.blk c sz)∧b'.ver = b.ver∧b'.st = .live∧w'.heap[c]? = some (.cells arr' ty' (0,0))∧arr'.size = sz∧b'.cs.length≤sz∧(∀ (i:Nat) (x:V),b'.cs[i]? = some x→VRel Φ S' w' x (arr'.getD i undef))∧¬ S' c) ∨
   (st.hp[t]? = some b'∧(b'.st = .live→∀ c sz,Φ t b'.ver = some (.blk c sz)→¬ C c))) :
  Sim m w0 S0 Jo D Φ S' ⟨st.ts,hp'⟩ a w' := by
 have hCc:∀ c,C c→(∃ arr ty,w.heap[c]? = some (.cells arr ty (0,0)))∧¬ S c∧(Jo c ∨ w0.heap.size≤c) := by
  intro c hc
  obtain ⟨t,b,sz,h1,h2,h3⟩ := hC c hc
  obtain ⟨arr,ty,k1,_,_,_,k5,k6⟩ := live_of h h1 h2 h3
  exact ⟨⟨arr,ty,k1⟩,k5,k6⟩
 have hw:∀ x,S x→w'.heap[x]? = w.heap[x]? := fun x hx => hblk x (h.Slt x hx) (fun hc => (hCc x hc).2.1 hx)
 have hlt:∀ c o,w.heap[c]? = some o→c < w.heap.size := fun c o e => (Array.getElem?_eq_some_iff.1 e).1
 have back:∀ (t:Nat) (b' : Blk),hp'[t]? = some b'→∃ b,st.hp[t]? = some b∧b'.ver = b.ver∧(b'.st = .live→b.st = .live) := by
  intro t b' hb'
  rcases hget t b' hb' with ⟨b,c,sz,arr',ty',k1,k2,k3,k4,k5,_⟩ | ⟨k1,_⟩
  ·exact ⟨b,k1,k4,fun _ => k2⟩
  ·exact ⟨b',k1,rfl,fun e => e⟩
 refine ⟨h.defers.keep fun r o e => (hblk r (hlt _ _ e) (fun hc => by obtain ⟨⟨arr,ty,k⟩,_⟩ := hCc r hc; rw [k] at e; cases e)).trans e,h.same,h.size,fun t v hv => (h.ts t v hv).mono (fun _ _ _ e => e) hS hw,?_,?_,?_,hS3,fun b hb' => hS b (h.Sold b hb'),?_,?_,h.io,h.glob.mono hS hw⟩
 ·intro t b' hb'
  rcases hget t b' hb' with ⟨b,c,sz,arr',ty',k1,k2,k3,k4,k5,k6,k7,k8,k9,k10⟩ | ⟨k1,k2⟩
  ·unfold BRel
   rw [k5]
   obtain ⟨_,_,_,_,_,_,_,q6⟩ := live_of h k1 k2 k3
   exact .inr ⟨c,sz,arr',ty',by rw [k4]; exact k3,k6,k7,k8,k9,k10,q6⟩
  ·have hB := h.hp t b' k1
   unfold BRel at hB ⊢
   split at hB
   ·trivial
   ·rename_i hl'
    rcases hB with hB | ⟨c1,sz1,arr1,ty1,h1,h2,h3,h4,h5,h6,h7⟩
    ·exact .inl hB
    ·have hcne:¬ C c1 := k2 hl' c1 sz1 h1
     refine .inr ⟨c1,sz1,arr1,ty1,h1,(hblk c1 (hlt _ _ h2) hcne).trans h2,h3,h4,fun i x hx => (h5 i x hx).mono (fun _ _ _ e => e) hS hw,?_,h7⟩
     intro hc'
     rcases hS2 c1 hc' with hc' | hc'
     ·exact h6 hc'
     ·have := hlt _ _ h2; omega
   ·rcases hB with hB | ⟨c1,sz1,h1,h2,arr1,ty1,fz,h3,h4,h5⟩
    ·exact .inl hB
    ·exact .inr ⟨c1,sz1,h1,hS c1 h2,arr1,ty1,fz,(hw c1 h2).trans h3,h4,fun i x hx => (h5 i x hx).mono (fun _ _ _ e => e) hS hw⟩
 ·intro t b' ver hb' hv
  obtain ⟨b,k1,k2,_⟩ := back t b' hb'
  exact h.fresh _ b _ k1 (by rw [← k2]; exact hv)
 ·intro t1 t2 b1 b2 c1 s1 c2 s2 g1 g2 l1 l2 p1 p2 hne12
  dsimp only at g1 g2
  obtain ⟨d1,k1,k2,k3⟩ := back t1 b1 g1
  obtain ⟨d2,q1,q2,q3⟩ := back t2 b2 g2
  exact h.inj _ _ _ _ _ _ _ _ k1 q1 (k3 l1) (q3 l2) (by rw [← k2]; exact p1) (by rw [← q2]; exact p2) hne12
 ·intro b hb'
  rcases hS2 b hb' with h' | h'
  ·exact h.Snew b h'
  ·exact .inr (.inl (Nat.le_trans h.frame.size h'))
 ·refine ⟨ho.trans h.frame.os,ht.trans h.frame.tape,hpr.trans h.frame.output,Nat.le_trans h.frame.size hs,fun x hx hio => ?_⟩
  have hxc:¬ C x := by
   intro hc
   rcases (hCc x hc).2.2 with k6 | k6
   ·exact hio k6
   ·omega
  exact (hblk x (Nat.lt_of_lt_of_le hx h.frame.size) hxc).trans (h.frame.block x hx hio)

omit [Laid] in
theorem setAll_other:∀ (us:List (Nat×Blk)) (pss:List (List Pv)) (hp:List Blk) (t:Nat),t ∉ us.map (·.1)→(setAll hp us pss)[t]? = hp[t]?
 | [],_,_,_,_ => rfl
 | _ :: _,[],_,_,_ => rfl
 | q :: us,ps :: pss,hp,t,h => by
  simp only [List.map_cons,List.mem_cons,not_or] at h
  rw [setAll,setAll_other us pss _ t h.2,List.getElem?_set,if_neg (fun e => h.1 e.symm)]
omit [Laid] in
theorem setAll_at:∀ (us:List (Nat×Blk)) (pss:List (List Pv)) (hp:List Blk) (i:Nat) (q:Nat×Blk) (ps:List Pv),(us.map (·.1)).Nodup→us[i]? = some q→pss[i]? = some ps→q.1 < hp.length→(setAll hp us pss)[q.1]? = some ⟨q.2.ver,.live,ps.map .p⟩
 | [],_,_,_,_,_,_,h,_,_ => by cases h
 | _ :: _,[],_,_,_,_,_,_,h,_ => by cases h
 | q :: us,ps :: pss,hp,0,q',ps',hn,h1,h2,hlt => by
  simp only [List.getElem?_cons_zero,sJ] at h1 h2
  subst h1 h2
  simp only [List.map_cons,List.nodup_cons] at hn
  rw [setAll,setAll_other us pss _ _ hn.1]
  simp [hlt]
 | q :: us,ps :: pss,hp,i + 1,q',ps',hn,h1,h2,hlt => by
  simp only [List.getElem?_cons_succ] at h1 h2
  simp only [List.map_cons,List.nodup_cons] at hn
  rw [setAll]
  exact setAll_at us pss _ i q' ps' hn.2 h1 h2 (by simpa using hlt)
omit [Laid] in
theorem setAll_len:∀ (us:List (Nat×Blk)) (pss:List (List Pv)) (hp:List Blk),(setAll hp us pss).length = hp.length
 | [],_,_ => rfl
 | _ :: _,[],_ => rfl
 | q :: us,ps :: pss,hp => by rw [setAll,setAll_len us pss]; simp

omit [Laid] in
theorem idxU_some {us:List (Nat×Blk)} {t i:Nat} (h:idxU us t = some i):∃ q,us[i]? = some q∧q.1 = t := by
 unfold idxU at h
 rw [List.findIdx?_eq_some_iff_getElem] at h
 obtain ⟨h1,h2,_⟩ := h
 exact ⟨us[i],List.getElem?_eq_getElem h1,by simpa using h2⟩
omit [Laid] in
theorem verU_some {us:List (Nat×Blk)} {t ver i:Nat} (h:verU us t ver = some i):∃ q,us[i]? = some q∧q.1 = t∧q.2.ver = ver := by
 unfold verU at h
 split at h
 ·rename_i j hj
  obtain ⟨q,h1,h2⟩ := idxU_some hj
  rw [h1] at h
  simp only at h
  split at h
  ·rename_i e
   simp only [sJ] at h; subst h
   exact ⟨q,h1,h2,e⟩
  ·cases h
 ·cases h

theorem call_sound (h:Sim m w0 S0 Jo D Φ S st a w) {s:Nat} {f:FuncId} {args:List V} {vals:Array Value} (hn:vals.size = args.length) (hv:∀ i v,args[i]? = some v→VRel Φ S w v (vals.getD i undef)) {r:V} {hp' : List Blk}
  (hc:CallR P m s st.hp f args r hp'):CallsIn Fence.wide 0 P f vals w (fun e w' => ∃ x Φ' S',e = .returned x∧Sim m w0 S0 Jo D Φ' S' ⟨st.ts,hp'⟩ a w'∧VRel Φ' S' w' r x) := by
 have frz:∀ (as:List V),optAll (pur st.hp) args = some as→((args.flatMap slots).all fun t => decide (m≤t)) = true →
   ∃ S1,(∀ b,S b→S1 b)∧Sim m w0 S0 Jo D Φ S1 ⟨st.ts,frzAll st.hp (args.flatMap slots)⟩ a w∧vals.size = as.length∧∀ i v,as[i]? = some v→VRel Plc0 S1 w v (vals.getD i undef) := by
  intro as has hm
  have hm' : ∀ t∈args.flatMap slots,m≤t := fun t ht => by
   rw [List.all_eq_true] at hm; simpa using hm t ht
  obtain ⟨S1,h1,h2,h3⟩ := frzAll_sim (args.flatMap slots) S st h hm'
  obtain ⟨k1,k2⟩ := optAll_get args as has
  refine ⟨S1,h1,h3,by rw [k1,hn],fun i v hi => ?_⟩
  obtain ⟨u,hu,hpu⟩ := k2 i v hi
  exact pur_rel h h1 (hv i u hu) hpu (fun t ht b c sz hb hok hp => h2 t (List.mem_flatMap.2 ⟨u,List.mem_of_getElem? hu,ht⟩) b c sz hb hok hp)
 cases hc with
 | pure as r has hm hr =>
  obtain ⟨S1,h1,h2,h3,h4⟩ := frz as has hm
  refine (hr w S1 vals h3 h4 h2.Slt h2.glob).mono ?_
  rintro e w' ⟨x,S',rfl,g1,g2,g3,g4,g5⟩
  refine ⟨x,Φ,S',rfl,h2.grow g5.os g5.tape g5.output g5.size (fun b hb => g5.block b hb (fun e => e)) g1 g2 g3,g4.mono (fun _ _ _ e => by cases e) (fun _ e => e) (fun _ _ => rfl)⟩
 | own as r cs b has hm hr hb =>
  obtain ⟨S1,h1,h2,h3,h4⟩ := frz as has hm
  refine (hr w S1 vals h3 h4 h2.Slt h2.glob).mono ?_
  rintro e w' ⟨x,S',p,rfl,g1,g2,g3,g5,g6,g7⟩
  have h5 := h2.grow g5.os g5.tape g5.output g5.size (fun b hb => g5.block b hb (fun e => e)) g1 g2 g3
  rcases g6 with ⟨rfl,rfl⟩ | ⟨c,sz,arr,ty,rfl,q2,q3,q4,q5,q6,q7⟩
  ·obtain ⟨Φ',k1,k2,k3⟩ := h5.bump (p := .virgin) (cs := []) hb (.inr rfl) (.inl ⟨rfl,rfl⟩)
   exact ⟨x,Φ',S',rfl,k3,g7 Φ' _ _ k2⟩
  ·obtain ⟨Φ',k1,k2,k3⟩ := h5.adopt hb q2 q3 q4 (fun i x hx => (q5 i x hx).mono (fun _ _ _ e => by cases e) (fun _ e => e) (fun _ _ => rfl)) q6 (Nat.le_trans h.frame.size q7) (by
    intro t b' c' sz' hb' hl' hp'
    have hold := live_of h2 hb' hl' hp'
    obtain ⟨arr',ty',e1,_⟩ := hold
    have := (Array.getElem?_eq_some_iff.1 e1).1
    omega)
   exact ⟨x,Φ',S',rfl,k3,g7 Φ' _ _ k2⟩
 | io as r u b ps ps' hu hb hl h0 hps has hm hr =>
  have hm' : ∀ t∈args.flatMap (ioS u b.ver),m≤t∧t ≠ u := fun t ht => by
   rw [List.all_eq_true] at hm
   have := hm t ht
   simpa using this
  obtain ⟨S1,g1,g2,g3⟩ := frzAll_sim (args.flatMap (ioS u b.ver)) S st h (fun t ht => (hm' t ht).1)
  have hbu:(frzAll st.hp (args.flatMap (ioS u b.ver)))[u]? = some b := by
   rw [frzAll_other' _ _ _ (fun e => (hm' u e).2 rfl)]; exact hb
  -- the block
  have hB := h.hp u b hb
  unfold BRel at hB
  rw [hl] at hB
  rcases hB with ⟨_,hB⟩ | ⟨c,sz,arr,ty,q1,_⟩
  ·rw [hB] at h0; simp at h0
  obtain ⟨arr,ty,q2,q3,q4,q5,q6,q7⟩ := live_of g3 hbu hl q1
  have hmap := allP_map hps
  obtain ⟨k1,k2⟩ := optAll_get args as has
  refine (hr w S1 vals c sz arr ty q2 q3 (by have := congrArg List.length hmap; simp at this; omega) ?_ q6 (by rw [k1,hn]) ?_ g3.Slt g3.glob).mono ?_
  ·intro i x hx
   have := q5 i (.p x) (by rw [hmap,List.getElem?_map,hx]; rfl)
   cases this with | p _ _ h => exact h
  ·intro i v hi
   obtain ⟨y,hy,hpy⟩ := k2 i v hi
   have hvy := hv i y hy
   have general:∀ y',pur st.hp y' = some v→y' = y→(∀ t∈slots y',t∈ioS u b.ver y)→VRel (PlcM c sz) S1 w v (vals.getD i undef) := by
    rintro y' hpur rfl hsub
    exact (pur_rel h g1 hvy hpur (fun t ht b' c' sz' hb' hok hp' => g2 t (List.mem_flatMap.2 ⟨y',List.mem_of_getElem? hy,hsub t ht⟩) b' c' sz' hb' hok hp')).mono (fun _ _ _ e => by cases e) (fun _ e => e) (fun _ _ => rfl)
   cases y with
   | ptr t ver' o =>
    simp only [ioV] at hpy
    split at hpy
    ·rename_i e
     obtain ⟨rfl,rfl⟩ := e
     simp only [sJ] at hpy; subst hpy
     generalize hx:vals.getD i undef = xv at hvy ⊢
     cases hvy with
     | ptr _ _ _ c' sz' hΦ =>
      rw [q1] at hΦ; injection hΦ with hΦ; injection hΦ with e1 e2
      subst e1 e2
      exact .ptr 0 0 o c sz (by simp [PlcM])
    ·rename_i e
     exact general _ hpy rfl (fun t' ht' => by simp only [ioS,if_neg e]; simpa [slots,slotC] using ht')
   | _ => exact general _ (by simpa only [ioV] using hpy) rfl (fun t' ht' => ht')
  ·rintro e w' ⟨x,S',rfl,e1,e2,e3,e4,e5,e6,arr',ty',e7,e8,e9,e10⟩
   have hover := g3.over hbu hl q1 e5.os e5.tape e5.output e5.size (fun x hx hxc => e5.block x hx hxc) e1 e2 e3 e6 e7 e8 (cs' := ps'.map .p) (by simpa using e9) (by
    intro i y hy
    rw [List.getElem?_map] at hy
    cases hq:ps'[i]? with
    | none => simp [hq] at hy
    | some q =>
     simp only [hq,Option.map_some,sJ] at hy; subst hy
     exact .p _ _ (e10 i q hq))
   exact ⟨x,Φ,S',rfl,hover,e4.mono (fun _ _ _ e => by cases e) (fun _ e => e) (fun _ _ => rfl)⟩
 | ion as r us pss pss' hnd hu hb hps has hm hr =>
  have hm' : ∀ t∈args.flatMap (ioSN us),m≤t∧t ∉ us.map (·.1) := fun t ht => by
   rw [List.all_eq_true] at hm
   have := hm t ht
   simp only [Bool.and_eq_true,decide_eq_true_eq,Bool.not_eq_true',List.contains_eq_mem,decide_eq_false_iff_not] at this
   exact this
  obtain ⟨S1,g1,g2,g3⟩ := frzAll_sim (args.flatMap (ioSN us)) S st h (fun t ht => (hm' t ht).1)
  obtain ⟨l1,l2⟩ := optAll_get us pss hps
  have hmemU:∀ (i:Nat) (q:Nat×Blk),us[i]? = some q→q.1∈us.map (·.1) := fun i q e => List.mem_map.2 ⟨q,List.mem_of_getElem? e,rfl⟩
  have hbu:∀ (i:Nat) (q:Nat×Blk),us[i]? = some q→(frzAll st.hp (args.flatMap (ioSN us)))[q.1]? = some q.2∧q.2.st = .live := by
   intro i q e
   refine ⟨?_,(hb q (List.mem_of_getElem? e)).2.1⟩
   rw [frzAll_other' _ _ _ (fun e' => (hm' _ e').2 (hmemU i q e))]; exact (hb q (List.mem_of_getElem? e)).1
  -- the blocks
  have hplace:∀ q∈us,∃ p:Nat×Nat,Φ q.1 q.2.ver = some (.blk p.1 p.2) := by
   intro q hq
   obtain ⟨h1,h2,h3⟩ := hb q hq
   have hB := h.hp q.1 q.2 h1
   unfold BRel at hB
   rw [h2] at hB
   rcases hB with ⟨_,hB⟩ | ⟨c,sz,arr,ty,q1,_⟩
   ·rw [hB] at h3; simp at h3
   ·exact ⟨(c,sz),q1⟩
  let bl:List (Nat×Nat) := us.pmap (fun q hq => Classical.choose (hplace q hq)) (fun q hq => hq)
  have hbl:∀ (i c sz:Nat),bl[i]? = some (c,sz)→∃ q,us[i]? = some q∧Φ q.1 q.2.ver = some (.blk c sz) := by
   intro i c sz e
   simp only [bl,List.getElem?_pmap] at e
   cases hq:us[i]? with
   | none => simp [hq] at e
   | some q =>
    have hmem := List.mem_of_getElem? hq
    have hsp := Classical.choose_spec (hplace q hmem)
    simp only [hq,Option.pmap_some,sJ] at e
    rw [e] at hsp
    exact ⟨q,rfl,hsp⟩
  have hbl2:∀ (i:Nat) (q:Nat×Blk),us[i]? = some q→∃ c sz,bl[i]? = some (c,sz)∧Φ q.1 q.2.ver = some (.blk c sz) := by
   intro i q hq
   have hmem := List.mem_of_getElem? hq
   refine ⟨(Classical.choose (hplace q hmem)).1,(Classical.choose (hplace q hmem)).2,?_,Classical.choose_spec (hplace q hmem)⟩
   simp only [bl,List.getElem?_pmap,hq,Option.pmap_some]
  have hbll:bl.length = us.length := by simp [bl]
  have hne:∀ (i j:Nat) (q q' : Nat×Blk),us[i]? = some q→us[j]? = some q'→i ≠ j→q.1 ≠ q'.1 := by
   intro i j q q' e1 e2 hij he
   have hi := (List.getElem?_eq_some_iff.1 e1).1
   have hj := (List.getElem?_eq_some_iff.1 e2).1
   refine hij ((List.getElem?_inj (by simpa using hi) hnd).1 ?_)
   simp [e1,e2,he]
  have hdist:∀ (i j:Nat) (a b:Nat×Nat),bl[i]? = some a→bl[j]? = some b→i ≠ j→a.1 ≠ b.1 := by
   intro i j a b e1 e2 hij
   obtain ⟨q,k1,k2⟩ := hbl i a.1 a.2 e1
   obtain ⟨q',k3,k4⟩ := hbl j b.1 b.2 e2
   have h1 := hb q (List.mem_of_getElem? k1)
   have h2 := hb q' (List.mem_of_getElem? k3)
   exact h.inj _ _ _ _ _ _ _ _ h1.1 h2.1 h1.2.1 h2.2.1 k2 k4 (hne i j q q' k1 k3 hij)
  have hBl:BlksAt S1 w bl pss := by
   refine ⟨by rw [hbll,l1],fun i c sz ps e1 e2 => ?_⟩
   obtain ⟨q,k1,k2⟩ := hbl i c sz e1
   obtain ⟨k3,k4⟩ := hbu i q k1
   obtain ⟨arr,ty,q2,q3,q4,q5,q6,q7⟩ := live_of g3 k3 k4 k2
   obtain ⟨q',k5,k6⟩ := l2 i ps e2
   rw [k1] at k5; injection k5 with k5; subst k5
   have hmap := allP_map k6
   refine ⟨q6,arr,ty,q2,q3,by have := congrArg List.length hmap; simp at this; omega,fun j x hx => ?_⟩
   have := q5 j (.p x) (by rw [hmap,List.getElem?_map,hx]; rfl)
   cases this with | p _ _ h => exact h
  obtain ⟨k1,k2⟩ := optAll_get args as has
  refine (hr w S1 vals bl hdist hBl (by rw [k1,hn]) ?_ g3.Slt g3.glob).mono ?_
  ·intro i v hi
   obtain ⟨y,hy,hpy⟩ := k2 i v hi
   have hvy := hv i y hy
   have general:∀ y',pur st.hp y' = some v→y' = y→(∀ t∈slots y',t∈ioSN us y)→VRel (PlcN bl) S1 w v (vals.getD i undef) := by
    rintro y' hpur rfl hsub
    exact (pur_rel h g1 hvy hpur (fun t ht b' c' sz' hb' hok hp' => g2 t (List.mem_flatMap.2 ⟨y',List.mem_of_getElem? hy,hsub t ht⟩) b' c' sz' hb' hok hp')).mono (fun _ _ _ e => by cases e) (fun _ e => e) (fun _ _ => rfl)
   cases y with
   | ptr t ver' o =>
    simp only [ioVN] at hpy
    split at hpy
    ·rename_i j hj
     simp only [sJ] at hpy; subst hpy
     obtain ⟨q,e1,e2,e3⟩ := verU_some hj
     obtain ⟨c,sz,e4,e5⟩ := hbl2 j q e1
     generalize hx:vals.getD i undef = xv at hvy ⊢
     cases hvy with
     | ptr _ _ _ c' sz' hΦ =>
      rw [← e2,← e3,e5] at hΦ; injection hΦ with hΦ; injection hΦ with e6 e7
      subst e6 e7
      exact .ptr j 0 o c sz (by simp [PlcN,e4])
    ·rename_i hnone
     exact general _ hpy rfl (fun t' ht' => by simp only [ioSN,hnone]; simpa [slots,slotC] using ht')
   | ref t ver' o n k =>
    simp only [ioVN] at hpy
    split at hpy
    ·rename_i j hj
     simp only [sJ] at hpy; subst hpy
     obtain ⟨q,e1,e2,e3⟩ := verU_some hj
     obtain ⟨c,sz,e4,e5⟩ := hbl2 j q e1
     generalize hx:vals.getD i undef = xv at hvy ⊢
     cases hvy with
     | ref _ _ _ _ _ c' sz' cap hΦ hn' hcap =>
      rw [← e2,← e3,e5] at hΦ; injection hΦ with hΦ; injection hΦ with e6 e7
      subst e6 e7
      exact .ref j 0 o n k c sz cap (by simp [PlcN,e4]) hn' hcap
     | refv _ _ _ a0 hΦ =>
      rw [← e2,← e3,e5] at hΦ; cases hΦ
    ·rename_i hnone
     exact general _ hpy rfl (fun t' ht' => by simp only [ioSN,hnone]; simpa [slots,slotC] using ht')
   | _ => exact general _ (by simpa only [ioVN] using hpy) rfl (fun t' ht' => ht')
  ·rintro e w' ⟨x,S',rfl,e1,e2,e3,e4,e5,e6,e7⟩
   have hlen' : pss'.length = us.length := by rw [← e6,hbll]
   have hover := g3.overs (C := fun c => ∃ (i sz:Nat),bl[i]? = some (c,sz)) (hp' := setAll (frzAll st.hp (args.flatMap (ioSN us))) us pss') e5.os e5.tape e5.output e5.size (by
    rintro c ⟨i,sz,hc⟩
    obtain ⟨q,k1,k2⟩ := hbl i c sz hc
    obtain ⟨k3,k4⟩ := hbu i q k1
    exact ⟨q.1,q.2,sz,k3,k4,k2⟩) (fun x hx hxc => e5.block x hx hxc) e1 e2 e3 (by
    intro t b' hb'
    by_cases htu:t∈us.map (·.1)
    ·left
     obtain ⟨q,hq,rfl⟩ := List.mem_map.1 htu
     obtain ⟨i,hi⟩ := List.getElem?_of_mem hq
     obtain ⟨k3,k4⟩ := hbu i q hi
     obtain ⟨c,sz,k5,k6⟩ := hbl2 i q hi
     have hil:i < us.length := (List.getElem?_eq_some_iff.1 hi).1
     have hps' : pss'[i]? = some (pss'[i]'(by omega)) := List.getElem?_eq_getElem _
     obtain ⟨q1,arr',ty',q2,q3,q4,q5⟩ := e7 i c sz _ k5 hps'
     have hat := setAll_at us pss' (frzAll st.hp (args.flatMap (ioSN us))) i q _ hnd hi hps' (List.getElem?_eq_some_iff.1 k3).1
     rw [hat] at hb'; injection hb' with hb'; subst hb'
     refine ⟨q.2,c,sz,arr',ty',k3,k4,k6,rfl,rfl,q2,q3,by simpa using q4,fun j y hy => ?_,q1⟩
     rw [List.getElem?_map] at hy
     cases hq' : (pss'[i]'(by omega))[j]? with
     | none => simp [hq'] at hy
     | some p =>
      simp only [hq',Option.map_some,sJ] at hy; subst hy
      exact .p _ _ (q5 j p hq')
    ·right
     rw [setAll_other us pss' _ t htu] at hb'
     refine ⟨hb',fun hl c sz hΦ => ?_⟩
     rintro ⟨i,sz',hc⟩
     obtain ⟨q,k1,k2⟩ := hbl i c sz' hc
     obtain ⟨k3,k4⟩ := hbu i q k1
     exact g3.inj t q.1 b' q.2 c sz c sz' hb' k3 hl k4 hΦ k2 (fun e => htu (by rw [e]; exact hmemU i q k1)) rfl)
   exact ⟨x,Φ,S',rfl,hover,e4.mono (fun _ _ _ e => by cases e) (fun _ e => e) (fun _ _ => rfl)⟩
end
end Go.Mx
