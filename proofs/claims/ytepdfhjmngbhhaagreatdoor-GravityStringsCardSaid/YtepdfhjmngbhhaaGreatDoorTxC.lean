/- Layers of the walk: abstract values, operations, calls, loops, and what they do. No condition. -/
import Derived.Test.YtepdfhjmngbhhaaGreatDoorTxB
namespace Go.Mx
variable [Laid]
section
variable {E:Env}

omit [Laid] in
theorem LRel.inv_cons {c:TV} {cs:List TV} {vs:List V} (h:LRel E (c :: cs) vs):∃ v vs',vs = v :: vs'∧TRel E c v∧LRel E cs vs' := by
 match vs,h with
 | [],h => have := h.1; simp at this
 | v :: vs,h => exact ⟨v,vs,rfl,h.2 0 c v rfl rfl,by simpa using h.1,fun i c v h1 h2 => h.2 (i + 1) c v (by simpa using h1) (by simpa using h2)⟩

omit [Laid] in
theorem LeL.cons {p q:Pv} {ps qs:List Pv} (h:PvLe p q) (hs:LeL ps qs):LeL (p :: ps) (q :: qs) := by
 refine ⟨by simp [hs.1],fun j x x' h1 h2 => ?_⟩
 match j with
 | 0 => simp at h1 h2; subst h1 h2; exact h
 | j + 1 => exact hs.2 j x x' (by simpa using h1) (by simpa using h2)
omit [Laid] in
theorem LeL.nil:LeL [] [] := ⟨rfl,by simp⟩
omit [Laid] in
theorem LeL.append {a b c d:List Pv} (h1:LeL a c) (h2:LeL b d):LeL (a ++ b) (c ++ d) := by
 refine ⟨by simp [h1.1,h2.1],fun j x x' hx hx' => ?_⟩
 rw [List.getElem?_append] at hx hx'
 by_cases hj:j < a.length
 ·rw [if_pos hj] at hx; rw [if_pos (by rw [h1.1]; exact hj)] at hx'; exact h1.2 j x x' hx hx'
 ·rw [if_neg hj] at hx; rw [if_neg (by rw [h1.1]; exact hj),h1.1] at hx'; exact h2.2 _ x x' hx hx'

omit [Laid] in
theorem optAll_append {α β:Type} {f:α→Option β}:∀ {a b:List α} {x y:List β},optAll f a = some x→optAll f b = some y→optAll f (a ++ b) = some (x ++ y)
 | [],b,x,y,h1,h2 => by simp only [optAll,sJ] at h1; subst h1; exact h2
 | c :: a,b,x,y,h1,h2 => by
  simp only [optAll] at h1
  split at h1
  ·rename_i u s hu hs
   simp only [sJ] at h1; subst h1
   simp only [List.cons_append,optAll,hu,optAll_append hs h2]
  ·cases h1

omit [Laid] in
theorem implode_gen {look:Nat→TC} {f:V→Option Pv} (hf:∀ x,f (.p x) = some x)
  (hsl:∀ e c v l,implSl look e (implode e deadC) c = some l→TRel E c v→∃ p,f v = some p∧PvLe p (.sl e.n (List.map e.enc l) false)) :
  ∀ (t:Ty) (cs:List TV) (x:t.den) (r:List TV) (vs:List V),implode t look cs = some (x,r)→LRel E cs vs→∃ vs1 vs2 ps,vs = vs1 ++ vs2∧LRel E r vs2∧optAll f vs1 = some ps∧LeL ps (t.enc x)∧vs1.length = t.n
 | .int k,cs,x,r,vs,h,hr => by
  cases cs with
  | nil => simp [implode] at h
  | cons c cs =>
   cases c with
   | i k' n =>
    simp only [implode] at h
    split at h
    ·rename_i hk
     have hk := of_decide_eq_true hk; subst hk
     simp only [sJ,pJ] at h; obtain ⟨rfl,rfl⟩ := h
     obtain ⟨v,vs',rfl,h1,h2⟩ := hr.inv_cons
     rw [h1.inv_i]
     exact ⟨[_],vs',[_],rfl,h2,by simp only [optAll,hf],.cons (.int _ _) .nil,rfl⟩
    ·cases h
   | _ => simp [implode] at h
 | .bool,cs,x,r,vs,h,hr => by
  cases cs with
  | nil => simp [implode] at h
  | cons c cs =>
   cases c with
   | b y =>
    simp only [implode,sJ,pJ] at h; obtain ⟨rfl,rfl⟩ := h
    obtain ⟨v,vs',rfl,h1,h2⟩ := hr.inv_cons
    rw [h1.inv_b]
    exact ⟨[_],vs',[_],rfl,h2,by simp only [optAll,hf],.cons (.bool _) .nil,rfl⟩
   | _ => simp [implode] at h
 | .err,cs,x,r,vs,h,hr => by
  cases cs with
  | nil => simp [implode] at h
  | cons c cs =>
   cases c with
   | e y =>
    simp only [implode,sJ,pJ] at h; obtain ⟨rfl,rfl⟩ := h
    obtain ⟨v,vs',rfl,h1,h2⟩ := hr.inv_cons
    rw [h1.inv_e]
    exact ⟨[_],vs',[_],rfl,h2,by simp only [optAll,hf],.cons (.ifc _) .nil,rfl⟩
   | _ => simp [implode] at h
 | .str,cs,x,r,vs,h,hr => by
  cases cs with
  | nil => simp [implode] at h
  | cons c cs =>
   cases c with
   | s y =>
    simp only [implode,sJ,pJ] at h; obtain ⟨rfl,rfl⟩ := h
    obtain ⟨v,vs',rfl,h1,h2⟩ := hr.inv_cons
    rw [h1.inv_s]
    exact ⟨[_],vs',[_],rfl,h2,by simp only [optAll,hf],.cons (.str _) .nil,rfl⟩
   | _ => simp [implode] at h
 | .sl e,cs,x,r,vs,h,hr => by
  cases cs with
  | nil => simp [implode] at h
  | cons c cs =>
   simp only [implode] at h
   split at h
   ·rename_i l hl
    simp only [sJ,pJ] at h; obtain ⟨rfl,rfl⟩ := h
    obtain ⟨v,vs',rfl,h1,h2⟩ := hr.inv_cons
    obtain ⟨p,h3,h4⟩ := hsl e c v l hl h1
    exact ⟨[v],vs',[p],rfl,h2,by simp only [optAll,h3],.cons h4 .nil,rfl⟩
   ·cases h
 | .pr a b,cs,x,r,vs,h,hr => by
  simp only [implode] at h
  split at h
  ·rename_i x1 r1 h1
   split at h
   ·rename_i x2 r2 h2
    simp only [sJ,pJ] at h; obtain ⟨rfl,rfl⟩ := h
    obtain ⟨u1,u2,p1,rfl,k1,k2,k3,k4⟩ := implode_gen hf hsl a cs x1 r1 vs h1 hr
    obtain ⟨w1,w2,p2,rfl,g1,g2,g3,g4⟩ := implode_gen hf hsl b r1 x2 r2 u2 h2 k1
    exact ⟨u1 ++ w1,w2,p1 ++ p2,by simp,g1,optAll_append k2 g2,k3.append g3,by simp [k4,g4,Ty.n]⟩
   ·cases h
  ·cases h
 | .un,cs,x,r,vs,h,hr => by
  simp only [implode,sJ,pJ] at h; obtain ⟨_,rfl⟩ := h
  exact ⟨[],vs,[],rfl,hr,rfl,.nil,rfl⟩

def fP:V→Option Pv
 | .p x => some x
 | _ => none
omit [Laid] in
theorem fP_map:∀ {vs:List V} {ps:List Pv},optAll fP vs = some ps→vs = ps.map .p
 | [],ps,h => by simp only [optAll,sJ] at h; subst h; rfl
 | v :: vs,ps,h => by
  simp only [optAll] at h
  split at h
  ·rename_i u s hu hs
   simp only [sJ] at h; subst h
   cases v with
   | p x => simp only [fP,sJ] at hu; subst hu; rw [fP_map hs]; rfl
   | _ => cases hu
  ·cases h

omit [Laid] in
theorem castL_le {a b:Ty} {l:List a.den} {r:List b.den} (h:castL a b l = some r):a.n = b.n∧List.map a.enc l = List.map b.enc r := by
 obtain ⟨e,rfl⟩ := castL_eq h
 subst e
 exact ⟨rfl,rfl⟩

omit [Laid] in
theorem implSl_dead {e:Ty} {impl:List TV→Option (e.den×List TV)} {c:TV} {v:V} {l:List e.den} (h:implSl deadC e impl c = some l) (hv:TRel E c v):∃ p,fP v = some p∧PvLe p (.sl e.n (List.map e.enc l) false) := by
 cases c with
 | sl t l' =>
  simp only [implSl] at h
  obtain ⟨h1,h2⟩ := castL_le h
  obtain ⟨k,es,f,rfl,h3,h4⟩ := hv.inv_sl
  rw [h2] at h4; rw [h1] at h3
  exact ⟨_,rfl,.sl' h3 (fun e => by cases e) h4⟩
 | nil =>
  simp only [implSl,sJ] at h; subst h
  obtain ⟨k,rfl⟩ := hv.inv_nil
  exact ⟨_,rfl,.sl' (.inl rfl) (fun e => by cases e) ⟨rfl,by simp⟩⟩
 | own | vd => simp [implSl,deadC] at h
 | vc => simp [implSl,deadC] at h
 | _ => simp [implSl] at h

omit [Laid] in
theorem implode_dead {t:Ty} {cs:List TV} {x:t.den} {r:List TV} {vs:List V} (h:implode t deadC cs = some (x,r)) (hr:LRel E cs vs):∃ ps vs2,vs = List.map V.p ps ++ vs2∧LRel E r vs2∧LeL ps (t.enc x)∧ps.length = t.n := by
 obtain ⟨v1,v2,ps,h1,h2,h3,h4,h5⟩ := implode_gen (f := fP) (fun _ => rfl) (fun e c v l h hv => implSl_dead h hv) t cs x r vs h hr
 have := fP_map h3; subst this
 exact ⟨ps,v2,h1,h2,h4,by simpa using h5⟩

def imp1 (t:Ty) (cs:List TV):Option t.den := match implode t deadC cs with
 | some (x,[]) => some x
 | _ => none
omit [Laid] in
theorem imp1_rel {t:Ty} {cs:List TV} {x:t.den} {vs:List V} (h:imp1 t cs = some x) (hr:LRel E cs vs):∃ ps,vs = List.map V.p ps∧LeL ps (t.enc x)∧ps.length = t.n := by
 unfold imp1 at h
 split at h
 ·rename_i y hy
  simp only [sJ] at h; subst h
  obtain ⟨ps,v2,h1,h2,h3,h4⟩ := implode_dead hy hr
  have:v2 = [] := List.length_eq_zero_iff.1 h2.1
  subst this
  exact ⟨ps,by simpa using h1,h3,h4⟩
 ·cases h

def impN (t:Ty) (n:Nat) (cs:List TV):Option (List t.den) := optAll (imp1 t) (chunk t.n n cs)
omit [Laid] in
theorem impN_rel {t:Ty}:∀ {n:Nat} {cs:List TV} {l:List t.den} {vs:List V},impN t n cs = some l→LRel E cs vs→cs.length = n * t.n →
  ∃ es:List (List Pv),vs = (es.flatten).map V.p∧LeLL es (List.map t.enc l)∧es.length = n∧l.length = n∧∃ ps,allP vs = some ps∧chunk t.n n ps = es
 | 0,cs,l,vs,h,hr,hn => by
  simp only [impN,chunk,optAll,sJ] at h; subst h
  have:cs = [] := List.length_eq_zero_iff.1 (by simpa using hn)
  subst this
  have:vs = [] := List.length_eq_zero_iff.1 hr.1
  subst this
  exact ⟨[],rfl,⟨rfl,by simp⟩,rfl,rfl,[],rfl,rfl⟩
 | n + 1,cs,l,vs,h,hr,hn => by
  simp only [impN,chunk,optAll] at h
  split at h
  ·rename_i x s hx hs
   simp only [sJ] at h; subst h
   obtain ⟨ps,h1,h2,h3⟩ := imp1_rel hx (hr.take t.n)
   obtain ⟨es,g1,g2,g3,g3',qs,g4,g5⟩ := impN_rel (n := n) hs (hr.drop t.n) (by rw [List.length_drop,hn,Nat.succ_mul]; omega)
   have hvs:vs = ps.map V.p ++ es.flatten.map V.p := by rw [← h1,← g1,List.take_append_drop]
   refine ⟨ps :: es,by simp [hvs],⟨by simp [g2.1],?_⟩,by simp [g3],by simp [g3'],ps ++ es.flatten,?_,?_⟩
   ·intro i e e' he he'
    match i with
    | 0 => simp at he he'; subst he he'; exact h2
    | i + 1 => exact g2.2 i e e' (by simpa using he) (by simpa using he')
   ·rw [hvs,← List.map_append]; exact allP_mapP _
   ·have hq:qs = es.flatten := by
     have := allP_mapP es.flatten
     rw [← g1,g4] at this
     simpa using this
    have e1:(ps ++ es.flatten).take t.n = ps := by rw [← h3]; simp
    have e2:(ps ++ es.flatten).drop t.n = es.flatten := by rw [← h3]; simp
    simp only [chunk,e1,e2]
    rw [← hq,g5]
  ·cases h
end
end Go.Mx
