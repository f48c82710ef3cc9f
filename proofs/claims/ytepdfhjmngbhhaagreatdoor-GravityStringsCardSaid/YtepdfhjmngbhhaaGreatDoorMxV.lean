/- Layers of the walk: abstract values, operations, calls, loops, and what they do. No condition. -/
import Derived.Test.YtepdfhjmngbhhaaGreatDoorMxP
namespace Go.Mx
variable [Laid]
open Go.RowKit

def noSite:Nat := 1000000007

def cFnM (P:Program) (f:FuncId):Option AFn :=
 match P.funcs[f]? with
 | some fn => match fn.body with
  | some c => match cCode P (noSite :: sitesOf c) true c,optAll (cRes P) fn.results.toList with
   | some ac,some rs => some ⟨fn.ntmps,(sitesOf c).length,rs,ac⟩
   | _,_ => none
  | none => none
 | none => none

def initStM (F:AFn) (args:List V) (ps:List Pv):St := ⟨args ++ List.replicate (F.nt - args.length) .und,⟨0,.live,ps.map .p⟩ :: List.replicate F.ns ⟨0,.dead,[]⟩⟩

section
variable {P:Program}

theorem init_simM {w:World} {S:Nat→Prop} {F:AFn} {args:List V} {ps:List Pv} {vals:Array Value} {c sz:Nat} {arr:Array Value} {ty:TypeId} (hc:w.heap[c]? = some (.cells arr ty (0,0))) (hsz:arr.size = sz) (hle:ps.length≤sz)
  (hps:∀ (i:Nat) (x:Pv),ps[i]? = some x→PRel S w x (arr.getD i undef)) (hSc:¬ S c) (hn:vals.size = args.length) (hv:∀ i v,args[i]? = some v→VRel (PlcM c sz) S w v (vals.getD i undef)) (hS:∀ b,S b→b < w.heap.size) (hG:Glob S w) {nt:Nat} (hnt:F.nt = nt) :
  Sim 1 w S (fun b => b = c) (BsI w.heap.size [(c,sz)]) (PlcM c sz) S (initStM F args ps) { tmps := vals ++ Array.replicate (nt - vals.size) undef,defers := [] } w := by
 subst hnt
 refine ⟨trivial,⟨fun _ e => e.elim,trivial⟩,by simp [initStM,hn],?_,?_,?_,?_,hS,fun _ e => e,fun _ e => .inl e,Fr.refl _ _,?_,hG⟩
 ·intro t v ht
  simp only [initStM] at ht ⊢
  rw [getD_of_list,Array.toList_append]
  rw [List.getElem?_append] at ht ⊢
  split at ht
  ·rename_i hlt
   rw [if_pos (by simpa [hn] using hlt)]
   have := hv t v ht
   rwa [getD_of_list] at this
  ·rw [List.getElem?_replicate] at ht
   split at ht
   ·simp only [sJ] at ht; subst ht; exact .und _
   ·cases ht
 ·intro t b hb
  simp only [initStM] at hb
  match t with
  | 0 =>
   simp only [List.getElem?_cons_zero,sJ] at hb; subst hb
   unfold BRel
   refine .inr ⟨c,sz,arr,ty,by simp [PlcM],hc,hsz,by simpa using hle,?_,hSc,.inl rfl⟩
   intro i x hx
   simp only [List.getElem?_map] at hx
   cases hq:ps[i]? with
   | none => simp [hq] at hx
   | some q =>
    simp only [hq,Option.map_some,sJ] at hx; subst hx
    exact .p _ _ (hps i q hq)
  | t + 1 =>
   simp only [List.getElem?_cons_succ,List.getElem?_replicate] at hb
   split at hb
   ·simp only [sJ] at hb; subst hb; trivial
   ·cases hb
 ·intro t b ver hb hver
  have hbv:b.ver = 0 := by
   simp only [initStM] at hb
   match t with
   | 0 => simp only [List.getElem?_cons_zero,sJ] at hb; subst hb; rfl
   | t + 1 =>
    simp only [List.getElem?_cons_succ,List.getElem?_replicate] at hb
    split at hb
    ·simp only [sJ] at hb; subst hb; rfl
    ·cases hb
  simp only [PlcM]
  rw [if_neg (by omega)]
 ·intro t1 t2 b1 b2 c1 s1 c2 s2 g1 g2 _ _ p1 p2 hne
  simp only [PlcM] at p1 p2
  split at p1
  ·split at p2
   ·omega
   ·cases p2
  ·cases p1
 ·intro t ht
  have:t = 0 := by omega
  subst this
  simp [PlcM,BsI]

theorem retm_of {f:FuncId} {F:AFn} (hc:cFnM P f = some F) {args:List V} {ps ps' : List Pv} {r:V}
  (h:AWp P 1 F.code (Done fun s => (∃ v,resV s F.res = some v∧purR s.hp v = some r∧((slotsR v).all fun t => decide (1≤t)) = true)∧s.hp[0]? = some ⟨0,.live,ps'.map .p⟩) (initStM F args ps)):RetM P f args ps r ps' := by
 intro w S vals c sz arr ty h1 h2 h3 h4 h5 hn hv hS hG
 unfold cFnM at hc
 split at hc
 ·rename_i fn hfn
  split at hc
  ·rename_i cd hb
   split at hc
   ·rename_i ac rs hac hrs
    simp only [sJ] at hc
    subst hc
    refine callsIn_of_wp_marks (F := Fw none) (fn := fn) (c := cd) hfn hb trivial ?_ rfl
    refine awp_sound cd true ac 1 w S (fun b => b = c) (BsI w.heap.size [(c,sz)]) none _ _ _ _ w (fun _ => ⟨rfl,fun _ _ _ e => e⟩) (Nat.le_refl _) hac (fun _ _ e => e) ⟨_,_,init_simM h1 h2 h3 h4 h5 hn hv hS hG rfl⟩ h ?_
    intro e s a' w' hq ⟨Φ,S1,hsim⟩
    have fin:((∃ v,resV s rs = some v∧purR s.hp v = some r∧((slotsR v).all fun t => decide (1≤t)) = true)∧s.hp[0]? = some ⟨0,.live,ps'.map .p⟩)→LeavesInM (Fw none) 0 P fn a'.tmps
      (fun e w' => ∃ x S',e = .returned x∧(∀ b,S b→S' b)∧(∀ b,S' b→S b ∨ w.heap.size≤b)∧(∀ b,S' b→b < w'.heap.size)∧VRel Plc0 S' w' r x∧Fr (fun b => b = c) w w' ∧
       ¬ S' c∧∃ arr' ty',w'.heap[c]? = some (.cells arr' ty' (0,0))∧arr'.size = sz∧ps'.length≤sz∧∀ (i:Nat) (x:Pv),ps'[i]? = some x→PRel S' w' x (arr'.getD i undef)) a'.defers .returning w' := by
     rintro ⟨⟨v,k1,k2,k3⟩,k4⟩
     refine leaves_marks (Nat.le_refl _) (fun _ _ _ e => e) ?_ _ _ hsim
     intro w' hsim
     obtain ⟨x,hx,hvx⟩ := results_run hsim hrs k1
     have hm:∀ t∈slotsR v,1≤t := fun t ht => by
      rw [List.all_eq_true] at k3; simpa using k3 t ht
     obtain ⟨S2,g1,g2,g3⟩ := frzAll_sim (slotsR v) S1 s hsim hm
     have hb0:(frzAll s.hp (slotsR v))[0]? = some ⟨0,.live,ps'.map .p⟩ := by
      rw [frzAll_other' _ _ _ (fun e => by have := hm 0 e; omega)]; exact k4
     have hB := g3.hp 0 _ hb0
     unfold BRel at hB
     simp only at hB
     have j0 := g3.io 0 (by decide)
     simp only [BsI,List.getD_cons_zero] at j0
     rcases hB with ⟨hB,hB2⟩ | ⟨c',sz',arr',ty',q1,q2,q3,q4,q5,q6,q7⟩
     ·rw [hB] at j0; cases j0
     ·rw [q1] at j0; injection j0 with j0; injection j0 with e1 e2
      subst e1 e2
      refine ⟨x,hx,x,S2,rfl,g3.Sold,fun b hb => (g3.Snew b hb).elim .inl (fun h => .inr (h.resolve_right (fun e => q6 (e ▸ hb)))),g3.Slt,purR_rel hsim g1 hvx k2 g2,g3.frame,q6,arr',ty',q2,q3,by simp at q4; omega,fun i y hy => ?_⟩
      have := q5 i (.p y) (by simp [hy])
      cases this with | p _ _ h => exact h
    cases e with
    | normal => exact fin hq
    | ret => exact fin hq
    | exit id => exact hq.elim
   ·cases hc
  ·cases hc
 ·cases hc
end

def cFnN (P:Program) (m:Nat) (f:FuncId):Option AFn :=
 match P.funcs[f]? with
 | some fn => match fn.body with
  | some c => match cCode P ((List.range m).map (noSite + ·) ++ sitesOf c) true c,optAll (cRes P) fn.results.toList with
   | some ac,some rs => some ⟨fn.ntmps,(sitesOf c).length,rs,ac⟩
   | _,_ => none
  | none => none
 | none => none

def initStN (F:AFn) (args:List V) (pss:List (List Pv)):St := ⟨args ++ List.replicate (F.nt - args.length) .und,(pss.map fun ps => ⟨0,.live,ps.map .p⟩) ++ List.replicate F.ns ⟨0,.dead,[]⟩⟩

section
variable {P:Program}

theorem init_simN {w:World} {S:Nat→Prop} {F:AFn} {args:List V} {pss:List (List Pv)} {vals:Array Value} {bl:List (Nat×Nat)} (hd:∀ (i j:Nat) (a b:Nat×Nat),bl[i]? = some a→bl[j]? = some b→i ≠ j→a.1 ≠ b.1) (hB:BlksAt S w bl pss)
  (hn:vals.size = args.length) (hv:∀ i v,args[i]? = some v→VRel (PlcN bl) S w v (vals.getD i undef)) (hS:∀ b,S b→b < w.heap.size) (hG:Glob S w) {nt:Nat} (hnt:F.nt = nt) :
  Sim bl.length w S (fun b => ∃ (i sz:Nat),bl[i]? = some (b,sz)) (BsI w.heap.size bl) (PlcN bl) S (initStN F args pss) { tmps := vals ++ Array.replicate (nt - vals.size) undef,defers := [] } w := by
 subst hnt
 have hget:∀ (t:Nat) (b:Blk),(initStN F args pss).hp[t]? = some b→(∃ ps,pss[t]? = some ps∧b = ⟨0,.live,ps.map .p⟩) ∨ b = ⟨0,.dead,[]⟩ := by
  intro t b hb
  simp only [initStN] at hb
  rw [List.getElem?_append] at hb
  split at hb
  ·rw [List.getElem?_map] at hb
   cases hq:pss[t]? with
   | none => simp [hq] at hb
   | some ps => simp only [hq,Option.map_some,sJ] at hb; exact .inl ⟨ps,rfl,hb.symm⟩
  ·rw [List.getElem?_replicate] at hb
   split at hb
   ·simp only [sJ] at hb; exact .inr hb.symm
   ·cases hb
 refine ⟨trivial,⟨fun _ e => e.elim,trivial⟩,by simp [initStN,hn],?_,?_,?_,?_,hS,fun _ e => e,fun _ e => .inl e,Fr.refl _ _,?_,hG⟩
 ·intro t v ht
  simp only [initStN] at ht ⊢
  rw [getD_of_list,Array.toList_append]
  rw [List.getElem?_append] at ht ⊢
  split at ht
  ·rename_i hlt
   rw [if_pos (by simpa [hn] using hlt)]
   have := hv t v ht
   rwa [getD_of_list] at this
  ·rw [List.getElem?_replicate] at ht
   split at ht
   ·simp only [sJ] at ht; subst ht; exact .und _
   ·cases ht
 ·intro t b hb
  rcases hget t b hb with ⟨ps,h1,rfl⟩ | rfl
  ·have hlt:t < bl.length := by rw [hB.1]; exact (List.getElem?_eq_some_iff.1 h1).1
   obtain ⟨q1,arr,ty,q2,q3,q4,q5⟩ := hB.2 t _ _ ps (List.getElem?_eq_getElem hlt) h1
   unfold BRel
   refine .inr ⟨_,_,arr,ty,by simp only [PlcN,if_true,List.getElem?_eq_getElem hlt]; rfl,q2,q3,by simpa using q4,?_,q1,.inl ⟨t,_,List.getElem?_eq_getElem hlt⟩⟩
   intro i x hx
   simp only [List.getElem?_map] at hx
   cases hq:ps[i]? with
   | none => simp [hq] at hx
   | some q =>
    simp only [hq,Option.map_some,sJ] at hx; subst hx
    exact .p _ _ (q5 i q hq)
  ·trivial
 ·intro t b ver hb hver
  have hbv:b.ver = 0 := by rcases hget t b hb with ⟨ps,h1,rfl⟩ | rfl <;> rfl
  simp only [PlcN]
  rw [if_neg (by omega)]
 ·intro t1 t2 b1 b2 c1 s1 c2 s2 g1 g2 _ _ p1 p2 hne
  simp only [PlcN] at p1 p2
  split at p1
  ·split at p2
   ·simp only [Option.map_eq_some_iff,Pl.blk.injEq] at p1 p2
    obtain ⟨x1,e1,rfl,rfl⟩ := p1
    obtain ⟨x2,e2,rfl,rfl⟩ := p2
    exact hd _ _ _ _ e1 e2 hne
   ·cases p2
  ·cases p1
 ·intro t ht
  simp only [PlcN,if_true,List.getElem?_eq_getElem ht,BsI,List.getD,Option.map_some,Option.getD_some]

theorem retn_of {f:FuncId} {F:AFn} {m:Nat} (hc:cFnN P m f = some F) {args:List V} {pss pss' : List (List Pv)} {r:V} (hm:pss.length = m) (hm' : pss'.length = m)
  (h:AWp P m F.code (Done fun s => (∃ v r0,resV s F.res = some v∧purR s.hp v = some r0∧(∀ S w x,VRel Plc0 S w r0 x→VRel Plc0 S w r x)∧((slotsR v).all fun t => decide (m≤t)) = true)∧∀ i,i < m→∃ ps',s.hp[i]? = some ⟨0,.live,ps'.map .p⟩∧LeS ps' (pss'.getD i [])) (initStN F args pss)):RetN P f args pss r pss' := by
 intro w S vals bl hd hB hn hv hS hG
 have hbl:bl.length = m := hB.1.trans hm
 unfold cFnN at hc
 split at hc
 ·rename_i fn hfn
  split at hc
  ·rename_i cd hb
   split at hc
   ·rename_i ac rs hac hrs
    simp only [sJ] at hc
    subst hc
    refine callsIn_of_wp_marks (F := Fw none) (fn := fn) (c := cd) hfn hb trivial ?_ rfl
    have hinit := init_simN (F := ⟨fn.ntmps,(sitesOf cd).length,rs,ac⟩) hd hB hn hv hS hG rfl
    rw [hbl] at hinit
    refine awp_sound cd true ac m w S (fun b => ∃ (i sz:Nat),bl[i]? = some (b,sz)) (BsI w.heap.size bl) none _ _ _ _ w (fun _ => ⟨rfl,fun _ _ _ e => e⟩) (Nat.le_refl _) hac (fun _ _ e => e) ⟨_,_,hinit⟩ h ?_
    intro e s a' w' hq ⟨Φ,S1,hsim⟩
    have fin:((∃ v r0,resV s rs = some v∧purR s.hp v = some r0∧(∀ S w x,VRel Plc0 S w r0 x→VRel Plc0 S w r x)∧((slotsR v).all fun t => decide (m≤t)) = true)∧∀ i,i < m→∃ ps',s.hp[i]? = some ⟨0,.live,ps'.map .p⟩∧LeS ps' (pss'.getD i []))→LeavesInM (Fw none) 0 P fn a'.tmps
      (fun e w' => ∃ x S',e = .returned x∧(∀ b,S b→S' b)∧(∀ b,S' b→S b ∨ w.heap.size≤b)∧(∀ b,S' b→b < w'.heap.size)∧VRel Plc0 S' w' r x∧Fr (fun b => ∃ (i sz:Nat),bl[i]? = some (b,sz)) w w'∧BlksAt S' w' bl pss') a'.defers .returning w' := by
     rintro ⟨⟨v,r0,k1,k2,hr0,k3⟩,k4⟩
     refine leaves_marks (Nat.le_refl _) (fun _ _ _ e => e) ?_ _ _ hsim
     intro w' hsim
     obtain ⟨x,hx,hvx⟩ := results_run hsim hrs k1
     have hmm:∀ t∈slotsR v,m≤t := fun t ht => by
      rw [List.all_eq_true] at k3; simpa using k3 t ht
     obtain ⟨S2,g1,g2,g3⟩ := frzAll_sim (slotsR v) S1 s hsim hmm
     have hblk:∀ (i:Nat) (hi:i < m),∃ arr' ty',w'.heap[(bl[i]'(by omega)).1]? = some (.cells arr' ty' (0,0))∧arr'.size = (bl[i]'(by omega)).2∧(pss'.getD i []).length≤(bl[i]'(by omega)).2∧(∀ (j:Nat) (y:Pv),(pss'.getD i [])[j]? = some y→PRel S2 w' y (arr'.getD j undef))∧¬ S2 (bl[i]'(by omega)).1 := by
      intro i hi
      obtain ⟨ps',hps',hle⟩ := k4 i hi
      have hbi:(frzAll s.hp (slotsR v))[i]? = some ⟨0,.live,ps'.map .p⟩ := by
       rw [frzAll_other' _ _ _ (fun e => by have := hmm i e; omega)]; exact hps'
      have hB := g3.hp i _ hbi
      unfold BRel at hB
      simp only at hB
      have j0 := g3.io i hi
      simp only [BsI,List.getD,List.getElem?_eq_getElem (show i < bl.length by omega),Option.getD_some] at j0
      rcases hB with ⟨hB,hB2⟩ | ⟨c',sz',arr',ty',q1,q2,q3,q4,q5,q6,q7⟩
      ·rw [hB] at j0; cases j0
      ·rw [q1] at j0; injection j0 with j0; injection j0 with e1 e2
       subst e1 e2
       refine ⟨arr',ty',q2,q3,by rw [hle.1]; simpa using q4,fun j y hy => ?_,q6⟩
       obtain ⟨z,hz,hzr⟩ := hle.get hy
       have := q5 j (.p z) (by rw [List.getElem?_map,hz]; rfl)
       cases this with | p _ _ h => exact hzr _ _ _ h
     refine ⟨x,hx,x,S2,rfl,g3.Sold,fun b hb => (g3.Snew b hb).elim .inl (fun h => .inr (h.resolve_right ?_)),g3.Slt,hr0 _ _ _ (purR_rel hsim g1 hvx k2 g2),g3.frame,by rw [hbl,hm'],fun i c sz ps e1 e2 => ?_⟩
     ·rintro ⟨i,sz,e⟩
      have hi:i < bl.length := (List.getElem?_eq_some_iff.1 e).1
      obtain ⟨_,_,_,_,_,_,q⟩ := hblk i (by omega)
      rw [List.getElem?_eq_getElem hi] at e; injection e with e
      rw [e] at q; exact q hb
     ·have hi:i < bl.length := (List.getElem?_eq_some_iff.1 e1).1
      obtain ⟨arr',ty',q1,q2,q3,q4,q5⟩ := hblk i (by omega)
      rw [List.getElem?_eq_getElem hi] at e1; injection e1 with e1
      have e3:pss'.getD i [] = ps := by simp [List.getD,e2]
      rw [e1] at q1 q2 q3 q5
      rw [e3] at q3 q4
      exact ⟨q5,arr',ty',q1,q2,q3,q4⟩
    cases e with
    | normal => exact fin hq
    | ret => exact fin hq
    | exit id => exact hq.elim
   ·cases hc
  ·cases hc
 ·cases hc
end
end Go.Mx
