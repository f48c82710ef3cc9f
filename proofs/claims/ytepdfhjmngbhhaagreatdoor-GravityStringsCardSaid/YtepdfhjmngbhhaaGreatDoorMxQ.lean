/- Layers of the walk: abstract values, operations, calls, loops, and what they do. No condition. -/
import Derived.Test.YtepdfhjmngbhhaaGreatDoorMxN
namespace Go.Mx
variable [Laid]
open Go.RowKit

def opdsO:AOp→List Opd
 | .mv x | .chk x | .box _ x | .ld1 x | .ldn _ x | .unot x | .uneg x | .conv _ x | .fa _ x | .prt _ _ x | .ext _ x | .len _ x | .isn x | .bnot x | .bnd _ x => [x]
 | .a64 x y z => [x,y,z]
 | .six x i => [x,i]
 | .sadd x y | .scmp _ x y => [x,y]
 | .ssl x lo hi => x :: lo.toList ++ hi.toList
 | .sof x | .isi _ x => [x]
 | .pick c x y => [c,x,y]
 | .newz _ _ => []
 | .build _ ps => ps.map (·.2.2)
 | .bsl _ _ _ _ _ ps => ps.map (·.2.2)
 | .st _ x v => [x,v]
 | .bin _ x y | .eqa _ _ _ x y | .eqb _ x y | .ia _ x y | .iaa _ _ x y | .idx _ _ _ x y | .mm _ x y | .app _ _ _ x y | .cpy _ x y | .sh _ x y => [x,y]
 | .mm3 _ x y z => [x,y,z]
 | .sl _ x lo hi | .sla _ _ x lo hi => x :: lo.toList ++ hi.toList
 | .sl3 _ x lo hi mx => mx :: x :: lo.toList ++ hi.toList
 | .mk _ _ _ _ l => [l]
 | .clo _ caps => caps

def touch (g:Opd→V):AOp→List Nat
 | .newz s _ | .box s _ | .bsl true s _ _ _ _ | .mk s _ _ _ _ => [s]
 | .ld1 x | .ldn _ x | .sla _ _ x _ _ | .st _ x _ => slotC (g x)
 | .app s _ _ x y => s :: (slotC (g x) ++ slotC (g y))
 | .cpy _ x y => slotC (g x) ++ slotC (g y)
 | _ => []
def isW:AOp→Bool
 | .newz .. | .box .. | .bsl true .. | .mk .. | .st .. | .app .. | .cpy .. => true
 | _ => false

omit [Laid] in
theorem map_congr_opd {g g2:Opd→V} {ps:List (Nat×Nat×Opd)} (h:∀ x∈ps.map (·.2.2),g2 x = g x):(ps.map fun p => (p.1,p.2.1,g2 p.2.2)) = (ps.map fun p => (p.1,p.2.1,g p.2.2)) := by
 apply List.map_congr_left
 intro p hp
 rw [h p.2.2 (List.mem_map.2 ⟨p,hp,rfl⟩)]

omit [Laid] in
theorem bound_congr {g g2:Opd→V} {d:Int} {o:Option Opd} (h:∀ x∈o.toList,g2 x = g x):bound g2 d o = bound g d o := by
 cases o with
 | none => rfl
 | some x => simp only [bound]; rw [h x (by simp)]

omit [Laid] in
theorem astep_g {hp:List Blk} {g g2:Opd→V} {op:AOp} (h:∀ x∈opdsO op,g2 x = g x):astep hp g2 op = astep hp g op := by
 cases op
 case sl k x lo hi =>
  have e0:g2 x = g x := h x (by simp [opdsO])
  have e1 := bound_congr (d := 0) (o := lo) (fun y hy => h y (by simp [opdsO]; simp at hy; simp [hy]))
  have e2:∀ d,bound g2 d hi = bound g d hi := fun d => bound_congr (fun y hy => h y (by simp [opdsO]; simp at hy; simp [hy]))
  simp only [astep,e0,e1,e2]
 case ssl x lo hi =>
  have e0:g2 x = g x := h x (by simp [opdsO])
  have e1 := bound_congr (d := 0) (o := lo) (fun y hy => h y (by simp [opdsO]; simp at hy; simp [hy]))
  have e2:∀ d,bound g2 d hi = bound g d hi := fun d => bound_congr (fun y hy => h y (by simp [opdsO]; simp at hy; simp [hy]))
  simp only [astep,e0,e1,e2]
 case sla k n x lo hi =>
  have e0:g2 x = g x := h x (by simp [opdsO])
  have e1 := bound_congr (d := 0) (o := lo) (fun y hy => h y (by simp [opdsO]; simp at hy; simp [hy]))
  have e2:∀ d,bound g2 d hi = bound g d hi := fun d => bound_congr (fun y hy => h y (by simp [opdsO]; simp at hy; simp [hy]))
  simp only [astep,e0,e1,e2]
 case sl3 k x lo hi mx =>
  have e0:g2 x = g x := h x (by simp [opdsO])
  have e1 := bound_congr (d := 0) (o := lo) (fun y hy => h y (by simp [opdsO]; simp at hy; simp [hy]))
  have e2:∀ d,bound g2 d hi = bound g d hi := fun d => bound_congr (fun y hy => h y (by simp [opdsO]; simp at hy; simp [hy]))
  have e3 := bound_congr (d := 0) (o := some mx) (fun y hy => h y (by simp [opdsO]; simp at hy; simp [hy]))
  simp only [astep,e0,e1,e2,e3]
 case len b x =>
  have e0:g2 x = g x := h x (by simp [opdsO])
  cases b <;> simp only [astep,e0]
 all_goals
  simp only [opdsO,List.mem_cons,List.not_mem_nil,or_false,forall_eq_or_imp,forall_eq] at h
  first
  | rfl
  | (simp only [astep]; rw [h]; done)
  | (simp only [astep]; rw [h.1,h.2]; done)
  | (simp only [astep]; rw [h.1,h.2.1,h.2.2]; done)
  | (simp only [astep]; rw [map_congr_opd h]; done)
  | (simp only [astep]; rw [List.map_congr_left h]; done)

def Local (hp hp2:List Blk) (r r2:Option (V×List Blk)) (T W:List Nat):Prop :=
 ∀ v hp',r = some (v,hp')→hp2.length = hp.length→(∀ t∈T,hp2[t]? = hp[t]?) →
  ∃ hp2',r2 = some (v,hp2')∧hp2'.length = hp2.length∧hp'.length = hp.length∧(∀ t,t ∉ W→hp2'[t]? = hp2[t]?)∧(∀ t,t ∉ W→hp'[t]? = hp[t]?)∧(∀ t∈W,hp2'[t]? = hp'[t]?)

omit [Laid] in
theorem behind_local {hp hp2:List Blk} {v:V} (h:∀ t∈slotC v,hp2[t]? = hp[t]?):behind hp2 v = behind hp v := by
 cases v <;> simp only [behind]
 rw [h _ (by simp [slotC])]

omit [Laid] in
theorem sliceP_local {hp hp2:List Blk} {k:Nat} {v:V} (h:∀ t∈slotC v,hp2[t]? = hp[t]?):sliceP hp2 k v = sliceP hp k v := by
 cases v with
 | ref t ver o n k' => simp only [sliceP]; rw [h _ (by simp [slotC])]
 | p x => cases x with
  | sl k' es full => cases es <;> rfl
  | _ => rfl
 | _ => rfl

omit [Laid] in
theorem local_set' {hp hp2:List Blk} {s:Nat} {b:Blk} (hl:hp2.length = hp.length) {W:List Nat} (hs:s∈W) (hT:∀ t∈W,hp2[t]? = hp[t]?):(hp2.set s b).length = hp2.length∧(hp.set s b).length = hp.length∧(∀ t,t ∉ W→(hp2.set s b)[t]? = hp2[t]?)∧(∀ t,t ∉ W→(hp.set s b)[t]? = hp[t]?) ∧
  (∀ t∈W,(hp2.set s b)[t]? = (hp.set s b)[t]?) := by
 refine ⟨by simp,by simp,fun t ht => ?_,fun t ht => ?_,fun t ht => ?_⟩
 ·rw [List.getElem?_set,if_neg (fun (e:s = t) => ht (by rw [← e]; exact hs))]
 ·rw [List.getElem?_set,if_neg (fun (e:s = t) => ht (by rw [← e]; exact hs))]
 ·rw [List.getElem?_set,List.getElem?_set,hl]
  split
  ·rfl
  ·exact hT t ht

def wrs (g:Opd→V) (op:AOp):List Nat := if isW op then touch g op else []

def isN (op:AOp):Bool := match op with
 | .newz .. | .box .. | .bsl true .. | .mk .. | .st .. | .app .. | .cpy .. | .ld1 _ | .ldn _ _ | .sla .. => false
 | _ => true

omit [Laid] in
theorem astep_N {hp hp2:List Blk} {g:Opd→V} {op:AOp} (hn:isN op = true) {v:V} {hp' : List Blk} (h:astep hp g op = some (v,hp')):hp' = hp∧astep hp2 g op = some (v,hp2) := by
 cases op
 case len b x => cases b <;> (simp only [astep] at h ⊢; split at h <;> simp_all)
 case bsl own s k n z ps =>
  cases own
  ·simp only [astep] at h ⊢
   split at h
   ·simp only [Bool.false_eq_true,if_false] at h ⊢
    split at h <;> simp_all
   ·cases h
  ·simp [isN] at hn
 all_goals first | (simp [isN] at hn; done) | skip
 all_goals simp only [astep] at h ⊢
 all_goals (repeat' split at h)
 all_goals first | (cases h; done) | skip
 all_goals simp only [Option.map_eq_some_iff,sJ,pJ] at h
 all_goals first
  | (obtain ⟨rfl,rfl⟩ := h; refine ⟨rfl,?_⟩; simp [*]; done)
  | (obtain ⟨u,hu,rfl,rfl⟩ := h; refine ⟨rfl,?_⟩; simp [*]; done)
  | (obtain ⟨u,hu,rfl,rfl⟩ := h; refine ⟨rfl,?_⟩; rw [if_pos (by assumption),hu]; rfl)
  | (obtain ⟨rfl,rfl⟩ := h; refine ⟨rfl,?_⟩; rw [if_pos (by assumption)])

omit [Laid] in
theorem astep_local {hp hp2:List Blk} {g:Opd→V} {op:AOp}:Local hp hp2 (astep hp g op) (astep hp2 g op) (touch g op) (wrs g op) := by
 intro v hp' h hl hT
 by_cases hn:isN op = true
 ·obtain ⟨rfl,h2⟩ := astep_N (hp2 := hp2) hn h
  refine ⟨hp2,h2,rfl,rfl,fun _ _ => rfl,fun _ _ => rfl,fun t ht => ?_⟩
  have hw:isW op = false := by
   cases op <;> first | rfl | (simp [isN] at hn; done) | skip
   rename_i own _ _ _ _ _
   cases own
   ·rfl
   ·simp [isN] at hn
  simp [wrs,hw] at ht
 ·have fin:∀ {W:List Nat} {s:Nat} {b' : Blk},s∈W→(∀ t∈W,hp2[t]? = hp[t]?)→hp' = hp.set s b'→astep hp2 g op = some (v,hp2.set s b')→∃ hp2',astep hp2 g op = some (v,hp2')∧hp2'.length = hp2.length∧hp'.length = hp.length ∧
    (∀ t,t ∉ W→hp2'[t]? = hp2[t]?)∧(∀ t,t ∉ W→hp'[t]? = hp[t]?)∧(∀ t∈W,hp2'[t]? = hp'[t]?) := by
   intro W s b' hs hW e1 e2
   subst e1
   exact ⟨_,e2,local_set' hl hs hW⟩
  have same:hp' = hp→astep hp2 g op = some (v,hp2)→isW op = false→∃ hp2',astep hp2 g op = some (v,hp2')∧hp2'.length = hp2.length∧hp'.length = hp.length ∧
    (∀ t,t ∉ wrs g op→hp2'[t]? = hp2[t]?)∧(∀ t,t ∉ wrs g op→hp'[t]? = hp[t]?)∧(∀ t∈wrs g op,hp2'[t]? = hp'[t]?) := by
   intro e1 e2 hw
   subst e1
   exact ⟨hp2,e2,rfl,rfl,fun _ _ => rfl,fun _ _ => rfl,fun t ht => by simp [wrs,hw] at ht⟩
  cases op <;> first | (simp [isN] at hn; done) | skip
  case newz s cs =>
   simp only [astep] at h
   split at h
   ·rename_i b hb
    simp only [sJ,pJ] at h
    refine fin (W := wrs g (.newz s cs)) (s := s) (by simp [wrs,isW,touch]) hT h.2.symm ?_
    simp only [astep,hT s (by simp [touch]),hb,h.1]
   ·cases h
  case box s x =>
   simp only [astep] at h
   split at h
   ·rename_i b cs hb hcs
    simp only [sJ,pJ] at h
    refine fin (W := wrs g (.box s x)) (s := s) (by simp [wrs,isW,touch]) hT h.2.symm ?_
    simp only [astep,hT s (by simp [touch]),hb,hcs,h.1]
   ·cases h
  case bsl own s k n z ps =>
   cases own
   ·simp [isN] at hn
   ·simp only [astep] at h
    split at h
    ·rename_i cs hcs
     simp only [if_true] at h
     split at h
     ·rename_i b hb
      simp only [sJ,pJ] at h
      refine fin (W := wrs g (.bsl true s k n z ps)) (s := s) (by simp [wrs,isW,touch]) hT h.2.symm ?_
      simp only [astep,hcs,if_true,hT s (by simp [touch]),hb,h.1]
     ·cases h
    ·cases h
  case mk s k bytes z l =>
   simp only [astep] at h
   split at h
   ·rename_i b n hb hl'
    split at h
    ·rename_i hc
     simp only [sJ,pJ] at h
     refine fin (W := wrs g (.mk s k bytes z l)) (s := s) (by simp [wrs,isW,touch]) hT h.2.symm ?_
     simp only [astep,hT s (by simp [touch]),hb,hl',h.1]
     rw [if_pos hc]
    ·cases h
   ·cases h
  case ld1 x =>
   simp only [astep] at h
   split at h
   ·rename_i cs hcs
    simp only [Option.map_eq_some_iff,pJ] at h
    obtain ⟨u,hu,rfl,rfl⟩ := h
    refine same rfl ?_ rfl
    simp only [astep,behind_local hT,hcs,hu,Option.map_some]
   ·cases h
  case ldn n x =>
   simp only [astep] at h
   split at h
   ·rename_i cs hcs
    split at h
    ·rename_i hc
     simp only [sJ,pJ] at h
     obtain ⟨rfl,rfl⟩ := h
     refine same rfl ?_ rfl
     simp only [astep,behind_local hT,hcs]
     rw [if_pos hc]
    ·cases h
   ·cases h
  case sla k n x lo hi =>
   simp only [astep] at h
   split at h
   ·rename_i t ver o hx
    split at h
    ·rename_i l hh b hl' hhh hb
     split at h
     ·rename_i hc
      simp only [sJ,pJ] at h
      obtain ⟨rfl,rfl⟩ := h
      refine same rfl ?_ rfl
      have ht := hT t (by simp [touch,hx,slotC])
      simp only [astep,hx,hl',hhh,ht,hb]
      rw [if_pos hc]
     ·cases h
    ·cases h
   ·rename_i cs hx
    split at h
    ·rename_i l hh hl' hhh
     split at h
     ·rename_i hc
      simp only [sJ,pJ] at h
      obtain ⟨rfl,rfl⟩ := h
      refine same rfl ?_ rfl
      simp only [astep,hx,hl',hhh]
      rw [if_pos hc]
     ·cases h
    ·cases h
   ·cases h
  case cpy k x y =>
   have hy:sliceP hp2 k (g y) = sliceP hp k (g y) := sliceP_local (fun t ht => hT t (by simp [touch,ht]))
   simp only [astep] at h
   split at h
   ·rename_i new t ver o n k' hnew hx
    split at h
    ·rename_i b hb
     split at h
     ·rename_i hc
      simp only [sJ,pJ] at h
      refine fin (W := wrs g (.cpy k x y)) (s := t) (by simp [wrs,isW,touch,hx,slotC]) hT h.2.symm ?_
      have ht := hT t (by simp [touch,hx,slotC])
      simp only [astep,hy,hnew,hx,ht,hb,← h.1]
      rw [if_pos hc]
     ·cases h
    ·cases h
   ·cases h
  case st n x y =>
   simp only [astep] at h
   split at h
   ·rename_i t ver o vs hx hvs
    split at h
    ·rename_i b hb
     split at h
     ·rename_i hc
      simp only [sJ,pJ] at h
      refine fin (W := wrs g (.st n x y)) (s := t) (by simp [wrs,isW,touch,hx,slotC]) hT h.2.symm ?_
      have ht := hT t (by simp [touch,hx,slotC])
      simp only [astep,hx,hvs,ht,hb,← h.1]
      rw [if_pos hc]
     ·cases h
    ·cases h
   ·cases h
  case app s k bytes x y =>
   have hy:sliceP hp2 k (g y) = sliceP hp k (g y) := sliceP_local (fun t ht => hT t (by simp [touch,ht]))
   simp only [astep] at h
   split at h
   ·cases h
   ·rename_i new hnew
    split at h
    ·rename_i k' hx
     split at h
     ·rename_i b hb
      split at h
      ·rename_i hc
       simp only [sJ,pJ] at h
       refine fin (W := wrs g (.app s k bytes x y)) (s := s) (by simp [wrs,isW,touch]) hT h.2.symm ?_
       have ht := hT s (by simp [touch])
       simp only [astep,hy,hnew,hx,ht,hb,← h.1]
       rw [if_pos hc]
      ·cases h
     ·cases h
    ·rename_i k' e0 es0 hx
     split at h
     ·rename_i b hb
      split at h
      ·rename_i hc
       simp only [sJ,pJ] at h
       refine fin (W := wrs g (.app s k bytes x y)) (s := s) (by simp [wrs,isW,touch]) hT h.2.symm ?_
       have ht := hT s (by simp [touch])
       simp only [astep,hy,hnew,hx,ht,hb,← h.1]
       rw [if_pos hc]
      ·cases h
     ·cases h
    ·rename_i t ver n k' hx
     split at h
     ·rename_i b hb
      split at h
      ·rename_i hc
       simp only [sJ,pJ] at h
       refine fin (W := wrs g (.app s k bytes x y)) (s := t) (by simp [wrs,isW,touch,hx,slotC]) hT h.2.symm ?_
       have ht := hT t (by simp [touch,hx,slotC])
       simp only [astep,hy,hnew,hx,ht,hb,← h.1]
       rw [if_pos hc]
      ·cases h
     ·cases h
    ·cases h
end Go.Mx
