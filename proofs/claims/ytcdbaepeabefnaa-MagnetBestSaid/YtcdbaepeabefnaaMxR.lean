/- Layers of the walk: abstract values, operations, calls, loops, and what they do. No condition. -/
import Derived.Test.YtcdbaepeabefnaaMxQ
namespace Go.Mx
variable [Laid]
open Go.RowKit

omit [Laid] in
theorem jga {α β:Type} {f g:α→Option β}:∀ (l:List α),(∀ x∈l,f x = g x)→jak f l = jak g l
 | [],_ => rfl
 | x :: l,h => by simp only [jak]; rw [h x (by simp),jga l (fun y hy => h y (by simp [hy]))]

omit [Laid] in
theorem juk {hp hp2:List Blk} {v:V} (h:∀ t∈jaK v,hp2[t]? = hp[t]?):capP hp2 v = capP hp v := by simp only [capP,jn8 h]

omit [Laid] in
theorem jn9 {hp hp2:List Blk} {v:V} (h:∀ t∈jal v,hp2[t]? = hp[t]?):pur hp2 v = pur hp v := by
 cases v with
 | agg cs =>
  simp only [pur]
  rw [jga cs (fun x hx => ?_)]
  have hx' : ∀ t∈jaK x,hp2[t]? = hp[t]? := fun t ht => h t (by simp only [jal,List.mem_flatMap]; exact ⟨x,hx,ht⟩)
  cases x with
  | ref t ver o n k => simp only [purC]; rw [jjz hx']
  | _ => rfl
 | ref t ver o n k => simp only [pur]; rw [jjz (v := .ref t ver o n k) h]
 | ptr t ver o => simp only [pur]; rw [juk (v := .ptr t ver o) h]
 | clo f caps =>
  simp only [pur]
  rw [jga caps (fun x hx => juk (fun t ht => h t (by simp only [jal,List.mem_flatMap]; exact ⟨x,hx,ht⟩)))]
 | _ => rfl

omit [Laid] in
theorem joa (hp:List Blk) (t:Nat):(frz1 hp t).length = hp.length := by
 unfold frz1; split
 ·split
  ·simp
  ·rfl
 ·rfl
omit [Laid] in
theorem jul {hp:List Blk} {t u:Nat} (h:u ≠ t):(frz1 hp t)[u]? = hp[u]? := by
 unfold frz1; split
 ·split
  ·rw [List.getElem?_set,if_neg (fun e => h e.symm)]
  ·rfl
 ·rfl
omit [Laid] in
theorem jF0 {hp hp2:List Blk} {t u:Nat} (hl:hp2.length = hp.length) (ht:hp2[t]? = hp[t]?) (hu:hp2[u]? = hp[u]?):(frz1 hp2 t)[u]? = (frz1 hp t)[u]? := by
 unfold frz1
 rw [ht]
 cases hb:hp[t]? with
 | none => exact hu
 | some b =>
  simp only
  split
  ·rw [List.getElem?_set,List.getElem?_set,hl,hu]
  ·exact hu

omit [Laid] in
theorem jbW:∀ (ts:List Nat) (hp:List Blk),(jaL hp ts).length = hp.length
 | [],_ => rfl
 | t :: ts,hp => by rw [jaL,jbW ts,joa]
omit [Laid] in
theorem jum:∀ (ts:List Nat) (hp:List Blk) (u:Nat),u ∉ ts→(jaL hp ts)[u]? = hp[u]?
 | [],_,_,_ => rfl
 | t :: ts,hp,u,h => by
  simp only [List.mem_cons,not_or] at h
  rw [jaL,jum ts _ u h.2,jul h.1]
omit [Laid] in
theorem jjA:∀ (ts:List Nat) (hp hp2:List Blk) (T:List Nat),hp2.length = hp.length→(∀ t∈ts,t∈T)→(∀ t∈T,hp2[t]? = hp[t]?)→∀ t∈T,(jaL hp2 ts)[t]? = (jaL hp ts)[t]?
 | [],_,_,_,_,_,h => h
 | t :: ts,hp,hp2,T,hl,hsub,h => by
  refine jjA ts _ _ T (by rw [joa,joa,hl]) (fun u hu => hsub u (by simp [hu])) ?_
  intro u hu
  exact jF0 hl (h t (hsub t (by simp))) (h u hu)

def jbX (hp:List Blk) (t:Nat):Bool := match hp[t]? with
 | some b => b.st.isLive
 | none => false
def wrC (hp:List Blk) (vs:List V) (s:Nat):List Nat := (vs.flatMap jal).filter (jbX hp) ++ [s]

omit [Laid] in
theorem job {hp hp2:List Blk} {vs:List V} {s:Nat} (h:∀ t∈vs.flatMap jal ++ [s],hp2[t]? = hp[t]?):wrC hp2 vs s = wrC hp vs s := by
 unfold wrC
 congr 1
 apply List.filter_congr
 intro t ht
 unfold jbX
 rw [h t (List.mem_append_left _ ht)]
omit [Laid] in
theorem jfn {hp:List Blk} {vs:List V} {s:Nat}:∀ t∈wrC hp vs s,t∈vs.flatMap jal ++ [s] := by
 intro t ht
 unfold wrC at ht
 rcases List.mem_append.1 ht with h | h
 ·exact List.mem_append_left _ (List.mem_filter.1 h).1
 ·exact List.mem_append_right _ h

omit [Laid] in
theorem jF1 {hp:List Blk} {t u:Nat} (h:jbX hp u = false):(frz1 hp t)[u]? = hp[u]? := by
 by_cases e:u = t
 ·subst e
  unfold jbX at h
  have:frz1 hp u = hp := by
   unfold frz1
   cases hb:hp[u]? with
   | none => rfl
   | some b =>
    rw [hb] at h
    simp only at h ⊢
    rw [h]
    rfl
  rw [this]
 ·exact jul e
omit [Laid] in
theorem jun:∀ (ts:List Nat) (hp:List Blk) (u:Nat),jbX hp u = false→(jaL hp ts)[u]? = hp[u]?
 | [],_,_,_ => rfl
 | t :: ts,hp,u,h => by
  have h1 := jF1 (t := t) h
  rw [jaL,jun ts _ u (by unfold jbX at h ⊢; rw [h1]; exact h),h1]
omit [Laid] in
theorem jeH {vs:List Nat} {hp:List Blk} {W:List Nat} {t:Nat} (hW:∀ u∈vs,jbX hp u = true→u∈W) (ht:t ∉ W):(jaL hp vs)[t]? = hp[t]? := by
 cases hl:jbX hp t with
 | false => exact jun vs hp t hl
 | true => exact jum vs hp t (fun e => ht (hW t e hl))

omit [Laid] in
theorem juo:∀ (us:List (Nat×Blk)) (pss:List (List Pv)) (hp hp2:List Blk),hp2.length = hp.length→∀ (t:Nat),hp2[t]? = hp[t]?→(jb4 hp2 us pss)[t]? = (jb4 hp us pss)[t]?
 | [],_,_,_,_,_,h => h
 | _ :: _,[],_,_,_,_,h => h
 | q :: us,ps :: pss,hp,hp2,hl,t,h => by
  rw [jb4,jb4]
  refine juo us pss _ _ (by simp [hl]) t ?_
  rw [List.getElem?_set,List.getElem?_set,hl]
  split
  ·rfl
  ·exact h

theorem joc {P:Program} {m s:Nat} {hp hp2:List Blk} {f:FuncId} {args:List V} {v:V} {hp' : List Blk} (h:CallR P m s hp f args v hp') (hl' : hp2.length = hp.length) (hT:∀ t∈args.flatMap jal ++ [s],hp2[t]? = hp[t]?) :
  ∃ hp2',CallR P m s hp2 f args v hp2'∧hp2'.length = hp2.length∧hp'.length = hp.length∧(∀ t,t ∉ wrC hp args s→hp2'[t]? = hp2[t]?)∧(∀ t,t ∉ wrC hp args s→hp'[t]? = hp[t]?)∧(∀ t∈wrC hp args s,hp2'[t]? = hp'[t]?) := by
 have hwr:∀ u∈args.flatMap jal,jbX hp u = true→u∈wrC hp args s := fun u hu hl => List.mem_append_left _ (List.mem_filter.2 ⟨hu,hl⟩)
 have hwr2:∀ u∈args.flatMap jal,jbX hp2 u = true→u∈wrC hp args s := fun u hu hl => hwr u hu (by unfold jbX at hl ⊢; rw [← hT u (List.mem_append_left _ hu)]; exact hl)
 have hpur:jak (pur hp2) args = jak (pur hp) args := jga args (fun x hx => jn9 (fun t ht => hT t (by simp only [List.mem_append,List.mem_flatMap]; exact .inl ⟨x,hx,ht⟩)))
 have hfz := jjA (args.flatMap jal) hp hp2 (args.flatMap jal ++ [s]) hl' (fun t ht => by simp [List.mem_append,ht]) hT
 cases h with
 | pure as r has hm hr =>
  refine ⟨_,.pure as v (by rw [hpur]; exact has) hm hr,jbW _ _,jbW _ _,?_,?_,fun t ht => hfz t (jfn t ht)⟩
  ·intro t ht; exact jeH hwr2 ht
  ·intro t ht; exact jeH hwr ht
 | own as r cs b has hm hr hb =>
  have hb2:(jaL hp2 (args.flatMap jal))[s]? = some b := by rw [hfz s (by simp)]; exact hb
  have hll:(jaL hp2 (args.flatMap jal)).length = (jaL hp (args.flatMap jal)).length := by rw [jbW,jbW,hl']
  refine ⟨_,.own as r cs b (by rw [hpur]; exact has) hm hr hb2,by rw [List.length_set,jbW],by rw [List.length_set,jbW],?_,?_,?_⟩
  ·intro t ht
   have hne:¬ s = t := fun e => ht (List.mem_append_right _ (by simp [e]))
   rw [List.getElem?_set,if_neg hne]; exact jeH hwr2 ht
  ·intro t ht
   have hne:¬ s = t := fun e => ht (List.mem_append_right _ (by simp [e]))
   rw [List.getElem?_set,if_neg hne]; exact jeH hwr ht
  ·intro t ht
   rw [List.getElem?_set,List.getElem?_set,hll]
   split
   ·rfl
   ·exact hfz t (jfn t ht)
 | io as r u b ps ps' hu hb hl h0 hps has hm hr =>
  have hsub:∀ v∈args,∀ t∈ioS u b.ver v,t∈jal v := by
   intro v _ t ht
   cases v with
   | ptr t' ver' o =>
    simp only [ioS] at ht
    split at ht
    ·cases ht
    ·simpa [jal,jaK] using ht
   | _ => exact ht
  have hsubA:∀ t∈args.flatMap (ioS u b.ver),t∈args.flatMap jal := by
   intro t ht
   obtain ⟨v,hv,ht⟩ := List.mem_flatMap.1 ht
   exact List.mem_flatMap.2 ⟨v,hv,hsub v hv t ht⟩
  have huT:u∈args.flatMap jal ++ [s] := List.mem_append_left _ hu
  have huW:u∈wrC hp args s := hwr u hu (by unfold jbX; rw [hb]; simp only [hl]; rfl)
  have hb2:hp2[u]? = some b := by rw [hT u huT]; exact hb
  have hio:jak (ioV u b.ver hp2) args = jak (ioV u b.ver hp) args := jga args (fun x hx => by
   have hpl:pur hp2 x = pur hp x := jn9 (fun t ht => hT t (by simp only [List.mem_append,List.mem_flatMap]; exact .inl ⟨x,hx,ht⟩))
   cases x with
   | ptr t' ver' o =>
    simp only [ioV]
    split
    ·rfl
    ·exact hpl
   | _ => exact hpl)
  have hfz2 := jjA (args.flatMap (ioS u b.ver)) hp hp2 (args.flatMap jal ++ [s]) hl' (fun t ht => List.mem_append_left _ (hsubA t ht)) hT
  have hll:(jaL hp2 (args.flatMap (ioS u b.ver))).length = (jaL hp (args.flatMap (ioS u b.ver))).length := by rw [jbW,jbW,hl']
  refine ⟨_,.io as v u b ps ps' hu hb2 hl h0 hps (by rw [hio]; exact has) hm hr,by rw [List.length_set,jbW],by rw [List.length_set,jbW],?_,?_,?_⟩
  ·intro t ht
   have hne:¬ u = t := fun e => ht (e ▸ huW)
   rw [List.getElem?_set,if_neg hne]; exact jeH (fun v hv hl => hwr2 v (hsubA v hv) hl) ht
  ·intro t ht
   have hne:¬ u = t := fun e => ht (e ▸ huW)
   rw [List.getElem?_set,if_neg hne]; exact jeH (fun v hv hl => hwr v (hsubA v hv) hl) ht
  ·intro t ht
   rw [List.getElem?_set,List.getElem?_set,hll]
   split
   ·rfl
   ·exact hfz2 t (jfn t ht)
 | ion as r us pss pss' hnd hu hb hps has hm hr =>
  have hsub:∀ v∈args,∀ t∈ioSN us v,t∈jal v := by
   intro v _ t ht
   cases v with
   | ptr t' ver' o =>
    simp only [ioSN] at ht
    split at ht
    ·cases ht
    ·simpa [jal,jaK] using ht
   | ref t' ver' o n k =>
    simp only [ioSN] at ht
    split at ht
    ·cases ht
    ·simpa [jal,jaK] using ht
   | _ => exact ht
  have hsubA:∀ t∈args.flatMap (ioSN us),t∈args.flatMap jal := by
   intro t ht
   obtain ⟨v,hv,ht⟩ := List.mem_flatMap.1 ht
   exact List.mem_flatMap.2 ⟨v,hv,hsub v hv t ht⟩
  have huT:∀ q∈us,q.1∈args.flatMap jal ++ [s] := fun q hq => List.mem_append_left _ (hu q hq)
  have huW:∀ t∈us.map (·.1),t∈wrC hp args s := by
   intro t ht
   obtain ⟨q,hq,rfl⟩ := List.mem_map.1 ht
   exact hwr q.1 (hu q hq) (by unfold jbX; rw [(hb q hq).1]; simp only [(hb q hq).2.1]; rfl)
  have hb2:∀ q∈us,hp2[q.1]? = some q.2∧q.2.st = .live∧0 < q.2.cs.length := fun q hq => ⟨by rw [hT q.1 (huT q hq)]; exact (hb q hq).1,(hb q hq).2⟩
  have hio:jak (ioVN us hp2) args = jak (ioVN us hp) args := jga args (fun x hx => by
   have hpl:pur hp2 x = pur hp x := jn9 (fun t ht => hT t (by simp only [List.mem_append,List.mem_flatMap]; exact .inl ⟨x,hx,ht⟩))
   cases x with
   | ptr t' ver' o =>
    simp only [ioVN]
    split
    ·rfl
    ·exact hpl
   | ref t' ver' o n k =>
    simp only [ioVN]
    split
    ·rfl
    ·exact hpl
   | _ => exact hpl)
  have hfz2 := jjA (args.flatMap (ioSN us)) hp hp2 (args.flatMap jal ++ [s]) hl' (fun t ht => List.mem_append_left _ (hsubA t ht)) hT
  have hll:(jaL hp2 (args.flatMap (ioSN us))).length = (jaL hp (args.flatMap (ioSN us))).length := by rw [jbW,jbW,hl']
  refine ⟨_,.ion as v us pss pss' hnd hu hb2 hps (by rw [hio]; exact has) hm hr,by rw [jn6,jbW],by rw [jn6,jbW],?_,?_,?_⟩
  ·intro t ht
   rw [jhy us pss' _ t (fun e => ht (huW t e))]; exact jeH (fun v hv hl => hwr2 v (hsubA v hv) hl) ht
  ·intro t ht
   rw [jhy us pss' _ t (fun e => ht (huW t e))]; exact jeH (fun v hv hl => hwr v (hsubA v hv) hl) ht
  ·intro t ht
   exact juo us pss' _ _ hll t (hfz2 t (jfn t ht))

def jcy (i:AIns):List Opd := match i.op with
 | .op o => ja2 o
 | .call _ _ args => args
 | .callv _ x args => x :: args
def jfo (l:List Opd):List Nat := l.filterMap fun | .t n => some n | .c _ => none
def rdI (i:AIns):List Nat := jfo (jcy i) ++ (match i.guard with | some (some g,_) => [g] | _ => [])

def actV (P:Program) (m:Nat) (st:St) (i:AIns) (T W:List Nat) (v:V) (hp' : List Blk):Prop :=
 match i.op with
 | .op op => jaf st.hp st.get op = some (v,hp')∧T = ja0 st.get op∧W = wrs st.get op
 | .call s f args => CallR P m s st.hp f (args.map st.get) v hp'∧T = (args.map st.get).flatMap jal ++ [s]∧W = wrC st.hp (args.map st.get) s
 | .callv s x args => match st.get x with
  | .clo f caps => jan P f = true∧CallR P m s st.hp f (args.map st.get ++ caps) v hp'∧T = (args.map st.get ++ caps).flatMap jal ++ [s]∧W = wrC st.hp (args.map st.get ++ caps) s
  | .p (.fn f caps) => jan P f = true∧CallR P m s st.hp f (args.map st.get ++ caps.map .ipt) v hp'∧T = (args.map st.get ++ caps.map V.ipt).flatMap jal ++ [s]∧W = wrC st.hp (args.map st.get ++ caps.map V.ipt) s
  | _ => False

def jbG (P:Program) (m:Nat) (st:St) (i:AIns) (T W:List Nat) (v:V) (hp' : List Blk):Prop :=
 match i.guard with
 | none => actV P m st i T W v hp'
 | some (some g,want) => (∃ b,st.get (.t g) = .p (.bool b)∧if b = want then actV P m st i T W v hp' else v = .no∧hp' = st.hp∧T = []∧W = []) ∨ (st.get (.t g) = .no∧v = .no∧hp' = st.hp∧T = []∧W = [])
 | some (none,_) => False

def jup (hp hp2 hp' hp2' : List Blk) (W:List Nat):Prop :=
 hp2'.length = hp2.length∧hp'.length = hp.length∧(∀ t,t ∉ W→hp2'[t]? = hp2[t]?)∧(∀ t,t ∉ W→hp'[t]? = hp[t]?)∧(∀ t∈W,hp2'[t]? = hp'[t]?)

omit [Laid] in
theorem jF2 {g:Opd→V} {op:AOp}:∀ t∈wrs g op,t∈ja0 g op := by
 intro t ht; unfold wrs at ht; split at ht
 ·exact ht
 ·cases ht

omit [Laid] in
theorem juq {st st2:St} {x:Opd} (h:∀ n∈jfo [x],st2.ts[n]? = st.ts[n]?):st2.get x = st.get x := by
 cases x with
 | t n => simp only [St.get]; rw [h n (by simp [jfo])]
 | c v => rfl

theorem jur {P:Program} {m:Nat} {st st2:St} {i:AIns} {T W:List Nat} {v:V} {hp' : List Blk} (h:actV P m st i T W v hp') (hr:∀ n∈jfo (jcy i),st2.ts[n]? = st.ts[n]?) (hl:st2.hp.length = st.hp.length) (hT:∀ t∈T,st2.hp[t]? = st.hp[t]?) :
  (∀ t∈W,t∈T)∧∃ hp2',actV P m st2 i T W v hp2'∧jup st.hp st2.hp hp' hp2' W := by
 have hg:∀ x∈jcy i,st2.get x = st.get x := by
  intro x hx
  refine juq fun n hn => hr n ?_
  simp only [jfo,List.mem_filterMap,List.mem_singleton,exists_eq_left] at hn ⊢
  exact ⟨x,hx,hn⟩
 unfold actV at h
 unfold jcy at hg
 split at h
 ·rename_i op hop
  rw [hop] at hg
  obtain ⟨h1,rfl,rfl⟩ := h
  refine ⟨jF2,?_⟩
  have he:jaf st2.hp st2.get op = jaf st2.hp st.get op := jFV hg
  obtain ⟨hp2',k1,k2⟩ := jFZ (hp := st.hp) (hp2 := st2.hp) v hp' h1 hl hT
  refine ⟨hp2',?_,k2⟩
  unfold actV
  rw [hop]
  have ht:ja0 st2.get op = ja0 st.get op := by
   cases op <;> simp only [ja0] <;> first
    | rfl
    | (rename_i own _ _ _ _ _; cases own <;> rfl)
    | (rw [hg _ (by simp [ja2])]; done)
    | (rw [hg _ (by simp [ja2]),hg _ (by simp [ja2])])
  exact ⟨he.trans k1,ht.symm,by unfold wrs; rw [ht]⟩
 ·rename_i s f args hop
  rw [hop] at hg
  obtain ⟨h1,rfl,rfl⟩ := h
  refine ⟨jfn,?_⟩
  have ha:args.map st2.get = args.map st.get := List.map_congr_left hg
  obtain ⟨hp2',k1,k2⟩ := joc h1 hl hT
  refine ⟨hp2',?_,k2⟩
  unfold actV
  rw [hop]
  dsimp only
  rw [ha]
  exact ⟨k1,rfl,(job hT).symm⟩
 ·rename_i s x args hop
  rw [hop] at hg
  have hx:st2.get x = st.get x := hg x (by simp)
  have ha:args.map st2.get = args.map st.get := List.map_congr_left (fun y hy => hg y (by simp [hy]))
  split at h
  ·rename_i f caps hc
   obtain ⟨h0,h1,rfl,rfl⟩ := h
   refine ⟨jfn,?_⟩
   obtain ⟨hp2',k1,k2⟩ := joc h1 hl hT
   refine ⟨hp2',?_,k2⟩
   unfold actV
   rw [hop]
   dsimp only
   rw [hx,hc]
   dsimp only
   rw [ha]
   exact ⟨h0,k1,rfl,(job hT).symm⟩
  ·rename_i f caps hc
   obtain ⟨h0,h1,rfl,rfl⟩ := h
   refine ⟨jfn,?_⟩
   obtain ⟨hp2',k1,k2⟩ := joc h1 hl hT
   refine ⟨hp2',?_,k2⟩
   unfold actV
   rw [hop]
   dsimp only
   rw [hx,hc]
   dsimp only
   rw [ha]
   exact ⟨h0,k1,rfl,(job hT).symm⟩
  ·exact h.elim

theorem jod {P:Program} {m:Nat} {st st2:St} {i:AIns} {T W:List Nat} {v:V} {hp' : List Blk} (h:jbG P m st i T W v hp') (hr:∀ n∈rdI i,st2.ts[n]? = st.ts[n]?) (hl:st2.hp.length = st.hp.length) (hT:∀ t∈T,st2.hp[t]? = st.hp[t]?) :
  (∀ t∈W,t∈T)∧∃ hp2',jbG P m st2 i T W v hp2'∧jup st.hp st2.hp hp' hp2' W := by
 have hr1:∀ n∈jfo (jcy i),st2.ts[n]? = st.ts[n]? := fun n hn => hr n (by simp [rdI,hn])
 unfold jbG at h
 split at h
 ·rename_i hg
  obtain ⟨k0,hp2',k1,k2⟩ := jur h hr1 hl hT
  exact ⟨k0,hp2',by unfold jbG; rw [hg]; exact k1,k2⟩
 ·rename_i g want hg
  have hb:st2.get (.t g) = st.get (.t g) := juq (fun n hn => by simp [jfo] at hn; subst hn; exact hr _ (by simp [rdI,hg]))
  rcases h with ⟨b,h1,h2⟩ | ⟨h1,rfl,rfl,rfl,rfl⟩
  rotate_left
  ·exact ⟨fun _ e => e,st2.hp,by unfold jbG; rw [hg]; exact .inr ⟨by rw [hb]; exact h1,rfl,rfl,rfl,rfl⟩,rfl,rfl,fun _ _ => rfl,fun _ _ => rfl,fun t ht => by cases ht⟩
  split at h2
  ·rename_i e
   obtain ⟨k0,hp2',k1,k2⟩ := jur h2 hr1 hl hT
   exact ⟨k0,hp2',by unfold jbG; rw [hg]; exact .inl ⟨b,by rw [hb]; exact h1,by rw [if_pos e]; exact k1⟩,k2⟩
  ·rename_i e
   obtain ⟨rfl,rfl,rfl,rfl⟩ := h2
   refine ⟨fun _ e => e,st2.hp,by unfold jbG; rw [hg]; exact .inl ⟨b,by rw [hb]; exact h1,by rw [if_neg e]; exact ⟨rfl,rfl,rfl,rfl⟩⟩,rfl,rfl,fun _ _ => rfl,fun _ _ => rfl,fun t ht => by cases ht⟩
 ·exact h.elim

def jjB (d:Option Nat) (l:List Nat):Bool := match d with | some d => !l.contains d | none => true
def jus (d e:Option Nat):Bool := match d,e with | some d,some e => d != e | _,_ => true
def jjC (x y:AIns):Bool := jjB x.dst (rdI y) && jjB y.dst (rdI x) && jus x.dst y.dst
def disj (a b:List Nat):Bool := a.all fun x => !b.contains x

omit [Laid] in
theorem jut {st:St} {hp:List Blk} {d:Option Nat} {v:V} {l:List Nat} (h:jjB d l = true):∀ n∈l,(St.put ⟨st.ts,hp⟩ d v).ts[n]? = st.ts[n]? := by
 intro n hn
 cases d with
 | none => rfl
 | some d =>
  simp only [jjB,Bool.not_eq_true',List.contains_eq_mem,decide_eq_false_iff_not] at h
  simp only [St.put]
  rw [List.getElem?_set,if_neg (fun e => h (by rw [e]; exact hn))]
omit [Laid] in
theorem jgb {st:St} {d:Option Nat} {v:V}:(St.put st d v).hp = st.hp := by cases d <;> rfl

omit [Laid] in
theorem joe {a b:List Nat} (h:disj a b = true):∀ t∈a,t ∉ b := by
 intro t ht
 simp only [disj,List.all_eq_true,Bool.not_eq_true',List.contains_eq_mem,decide_eq_false_iff_not] at h
 exact h t ht

theorem swap {P:Program} {m:Nat} {st:St} {x y:AIns} {T W T' W' : List Nat} {v v' : V} {hp1 hp2:List Blk} (hx:jbG P m st x T W v hp1) (hy:jbG P m (St.put ⟨st.ts,hp1⟩ x.dst v) y T' W' v' hp2) (ha:jjC x y = true)
  (h1:disj T W' = true) (h2:disj T' W = true) :
  ∃ k1 k2,jbG P m st y T' W' v' k1∧jbG P m (St.put ⟨st.ts,k1⟩ y.dst v') x T W v k2∧St.put ⟨(St.put ⟨st.ts,k1⟩ y.dst v').ts,k2⟩ x.dst v = St.put ⟨(St.put ⟨st.ts,hp1⟩ x.dst v).ts,hp2⟩ y.dst v' := by
 simp only [jjC,Bool.and_eq_true] at ha
 obtain ⟨⟨a1,a2⟩,a3⟩ := ha
 -- x writes only W
 obtain ⟨hWT,_,_,lx⟩ := jod (st2 := st) hx (fun _ _ => rfl) rfl (fun _ _ => rfl)
 obtain ⟨lx1,lx2,lx3,lx4,lx5⟩ := lx
 -- y at st
 obtain ⟨hWT',k1,hy1,ly⟩ := jod (st2 := st) hy (fun n hn => (jut a1 n hn).symm) (by rw [jgb]; exact lx2.symm) (fun t ht => by
  rw [jgb]
  exact (lx4 t (joe h2 t ht)).symm)
 obtain ⟨ly1,ly2,ly3,ly4,ly5⟩ := ly
 rw [jgb] at ly2 ly4
 -- x jbg y
 obtain ⟨_,k2,hx1,lz⟩ := jod (st2 := St.put ⟨st.ts,k1⟩ y.dst v') hx (fun n hn => jut a2 n hn) (by rw [jgb]; exact ly1) (fun t ht => by
  rw [jgb]
  exact ly3 t (joe h1 t ht))
 obtain ⟨lz1,lz2,lz3,lz4,lz5⟩ := lz
 rw [jgb] at lz1 lz3
 refine ⟨k1,k2,hy1,hx1,?_⟩
 have hheap:k2 = hp2 := by
  apply List.ext_getElem?
  intro t
  by_cases hW:t∈W
  ·have hW' : t ∉ W' := joe h1 t (hWT t hW)
   rw [lz5 t hW,ly4 t hW']
  ·rw [lz3 t hW]
   by_cases hW' : t∈W'
   ·rw [ly5 t hW']
   ·rw [ly3 t hW',ly4 t hW']
    exact (lx4 t hW).symm
 rw [hheap]
 cases hdx:x.dst with
 | none => cases y.dst <;> rfl
 | some dx =>
  cases hdy:y.dst with
  | none => rfl
  | some dy =>
   simp only [St.put]
   rw [hdx,hdy] at a3
   simp only [jus,bne_iff_ne,ne_eq] at a3
   rw [List.set_comm _ _ (fun e => a3 e.symm)]

def Run (P:Program) (m:Nat) (il:List AIns) (F:List (List Nat×List Nat)):List Nat→St→St→Prop
 | [],st,st' => st' = st
 | i :: r,st,st' => ∃ ins v hp',il[i]? = some ins∧jbG P m st ins (F.getD i ([],[])).1 (F.getD i ([],[])).2 v hp'∧Run P m il F r (St.put ⟨st.ts,hp'⟩ ins.dst v) st'

def jof (il:List AIns) (F:List (List Nat×List Nat)) (x y:Nat):Prop :=
 ∀ ix iy,il[x]? = some ix→il[y]? = some iy→jjC ix iy = true∧disj (F.getD x ([],[])).1 (F.getD y ([],[])).2 = true∧disj (F.getD y ([],[])).1 (F.getD x ([],[])).2 = true

theorem juu {P:Program} {m:Nat} {il:List AIns} {F:List (List Nat×List Nat)} {i:Nat} {post:List Nat} {st' : St}:∀ (pre:List Nat) (st:St),Run P m il F (pre ++ i :: post) st st'→(∀ j∈pre,jof il F j i) →
  ∃ ins v hp',il[i]? = some ins∧jbG P m st ins (F.getD i ([],[])).1 (F.getD i ([],[])).2 v hp'∧Run P m il F (pre ++ post) (St.put ⟨st.ts,hp'⟩ ins.dst v) st'
 | [],st,h,_ => h
 | j :: pre,st,h,hI => by
  obtain ⟨jns,u,hq,hj,h1,h2⟩ := h
  obtain ⟨ins,v,hp',hi,h3,h4⟩ := juu pre _ h2 (fun k hk => hI k (by simp [hk]))
  obtain ⟨a1,a2,a3⟩ := hI j (by simp) jns ins hj hi
  obtain ⟨k1,k2,g1,g2,g3⟩ := swap h1 h3 a1 a2 a3
  refine ⟨ins,v,k1,hi,g1,jns,u,k2,hj,g2,?_⟩
  rw [g3]; exact h4

def jbQ (o:Oper):List Nat := o.after.toList.filterMap fun e => if Region.binds .any e then some e.on else none
def jF3 (acc:List Nat) (ps:List Nat):Nat := ps.foldl (fun s p => s ||| (2 ^ p ||| acc.getD p 0)) 0
def clos:List (List Nat)→List Nat→List Nat
 | [],acc => acc
 | ps :: r,acc => clos r (acc ++ [jF3 acc ps])

omit [Laid] in
theorem juv (acc:List Nat):∀ (ps:List Nat) (s j:Nat),(ps.foldl (fun s p => s ||| (2 ^ p ||| acc.getD p 0)) s).testBit j = true→s.testBit j = true ∨ ∃ p∈ps,j = p ∨ (acc.getD p 0).testBit j = true
 | [],s,j,h => .inl h
 | p :: ps,s,j,h => by
  rcases juv acc ps _ j h with h1 | ⟨q,hq,h2⟩
  ·rw [Nat.testBit_or,Nat.testBit_or,Bool.or_eq_true,Bool.or_eq_true] at h1
   rcases h1 with h1 | h1 | h1
   ·exact .inl h1
   ·rw [Nat.testBit_two_pow] at h1
    exact .inr ⟨p,by simp,.inl (of_decide_eq_true h1).symm⟩
   ·exact .inr ⟨p,by simp,.inr h1⟩
  ·exact .inr ⟨q,by simp [hq],h2⟩

omit [Laid] in
theorem juw (E:Nat→Prop) (all:List (List Nat)) (hE:∀ k ps,E k→all[k]? = some ps→∀ p∈ps,E p):∀ (r:List (List Nat)) (acc:List Nat) (pre:List (List Nat)),all = pre ++ r→acc.length = pre.length →
  (∀ (i c:Nat) (ps:List Nat),acc[i]? = some c→all[i]? = some ps→(∀ p∈ps,E p)→∀ j,c.testBit j = true→E j)→∀ (i c:Nat) (ps:List Nat),(clos r acc)[i]? = some c→all[i]? = some ps→(∀ p∈ps,E p)→∀ j,c.testBit j = true→E j
 | [],acc,pre,_,_,h => h
 | ps :: r,acc,pre,hall,hlen,h => by
  rw [clos]
  refine juw E all hE r _ (pre ++ [ps]) (by rw [hall]; simp) (by simp [hlen]) ?_
  intro i c qs hc hq hqs j hj
  rw [List.getElem?_append] at hc
  split at hc
  ·exact h i c qs hc hq hqs j hj
  ·rename_i hlt
   have hi:i = acc.length := by
    have := (List.getElem?_eq_some_iff.1 hc).1
    simp at this; omega
   subst hi
   simp only [Nat.sub_self,List.getElem?_cons_zero,sJ] at hc
   have hps:all[acc.length]? = some ps := by rw [hall,hlen]; simp
   rw [hps] at hq; injection hq with hq; subst hq
   subst hc
   rcases juv acc ps 0 j hj with h1 | ⟨p,hp,h2⟩
   ·simp at h1
   ·rcases h2 with rfl | h2
    ·exact hqs _ hp
    ·have hplt:p < acc.length := by
      rcases Nat.lt_or_ge p acc.length with hh | hh
      ·exact hh
      ·rw [List.getD,List.getElem?_eq_none hh] at h2; simp at h2
     have hpa:acc[p]? = some (acc.getD p 0) := by simp [List.getD,hplt]
     have hpl:p < all.length := by rw [hall]; simp; omega
     exact h p _ all[p] hpa (List.getElem?_eq_getElem hpl) (hE p all[p] (hqs p hp) (List.getElem?_eq_getElem hpl)) j h2

omit [Laid] in
theorem jF4 {g:Opd→V} {op:AOp} (hn:isN op = true):ja0 g op = [] := by
 cases op with
 | bsl own s k n z ps =>
  cases own
  ·rfl
  ·simp [isN] at hn
 | _ => first | rfl | (simp [isN] at hn; done)

def jhz (i:AIns):Bool := match i.op with
 | .op o => !isN o
 | _ => true

def jog (cl:List Nat) (n:Nat):List (Nat×Nat) := (List.range n).flatMap fun y => ((List.range y).filter fun x => !(cl.getD y 0).testBit x).map fun x => (x,y)

def jux (il:List AIns) (p:Nat×Nat):Bool := match il[p.1]?,il[p.2]? with
 | some x,some y => jjC x y
 | _,_ => false
def joh (il:List AIns) (p:Nat×Nat):Bool := match il[p.1]?,il[p.2]? with
 | some x,some y => jhz x && jhz y
 | _,_ => true

def okF (F:List (List Nat×List Nat)) (pairs:List (Nat×Nat)):Bool := pairs.all fun p => disj (F.getD p.1 ([],[])).1 (F.getD p.2 ([],[])).2 && disj (F.getD p.2 ([],[])).1 (F.getD p.1 ([],[])).2

def cIl (P:Program) (sites:List Nat) (ops:Array Oper):Option (List AIns) := jak (cIns P sites ops) ops.toList

def joi (P:Program) (sites:List Nat) (ops:Array Oper):Option (List AIns×List (Nat×Nat)) :=
 match cIl P sites ops with
 | some il =>
  let pr := ops.toList.map jbQ
  let ps := jog (clos pr []) ops.size
  if P.follows .mixedOrders = true∧(pr.zipIdx.all fun q => q.1.all fun p => decide (p < q.2)) = true∧ps.all (jux il) = true then some (il,ps.filter (joh il)) else none
 | none => none
end Go.Mx
