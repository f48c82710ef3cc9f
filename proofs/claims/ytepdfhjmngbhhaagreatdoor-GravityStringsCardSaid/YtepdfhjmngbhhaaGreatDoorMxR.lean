/- Layers of the walk: abstract values, operations, calls, loops, and what they do. No condition. -/
import Derived.Test.YtepdfhjmngbhhaaGreatDoorMxQ
namespace Go.Mx
variable [Laid]
open Go.RowKit

omit [Laid] in
theorem optAll_congr {α β:Type} {f g:α→Option β}:∀ (l:List α),(∀ x∈l,f x = g x)→optAll f l = optAll g l
 | [],_ => rfl
 | x :: l,h => by simp only [optAll]; rw [h x (by simp),optAll_congr l (fun y hy => h y (by simp [hy]))]

omit [Laid] in
theorem capP_local {hp hp2:List Blk} {v:V} (h:∀ t∈slotC v,hp2[t]? = hp[t]?):capP hp2 v = capP hp v := by simp only [capP,behind_local h]

omit [Laid] in
theorem pur_local {hp hp2:List Blk} {v:V} (h:∀ t∈slots v,hp2[t]? = hp[t]?):pur hp2 v = pur hp v := by
 cases v with
 | agg cs =>
  simp only [pur]
  rw [optAll_congr cs (fun x hx => ?_)]
  have hx' : ∀ t∈slotC x,hp2[t]? = hp[t]? := fun t ht => h t (by simp only [slots,List.mem_flatMap]; exact ⟨x,hx,ht⟩)
  cases x with
  | ref t ver o n k => simp only [purC]; rw [sliceP_local hx']
  | _ => rfl
 | ref t ver o n k => simp only [pur]; rw [sliceP_local (v := .ref t ver o n k) h]
 | ptr t ver o => simp only [pur]; rw [capP_local (v := .ptr t ver o) h]
 | clo f caps =>
  simp only [pur]
  rw [optAll_congr caps (fun x hx => capP_local (fun t ht => h t (by simp only [slots,List.mem_flatMap]; exact ⟨x,hx,ht⟩)))]
 | _ => rfl

omit [Laid] in
theorem frz1_len (hp:List Blk) (t:Nat):(frz1 hp t).length = hp.length := by
 unfold frz1; split
 ·split
  ·simp
  ·rfl
 ·rfl
omit [Laid] in
theorem frz1_other {hp:List Blk} {t u:Nat} (h:u ≠ t):(frz1 hp t)[u]? = hp[u]? := by
 unfold frz1; split
 ·split
  ·rw [List.getElem?_set,if_neg (fun e => h e.symm)]
  ·rfl
 ·rfl
omit [Laid] in
theorem frz1_same {hp hp2:List Blk} {t u:Nat} (hl:hp2.length = hp.length) (ht:hp2[t]? = hp[t]?) (hu:hp2[u]? = hp[u]?):(frz1 hp2 t)[u]? = (frz1 hp t)[u]? := by
 unfold frz1
 rw [ht]
 cases hb:hp[t]? with
 | none => exact hu
 | some b =>
  simp only
  split
  ·rw [List.getElem?_set,List.getElem?_set,hl,hu]
  ·exact hu

omit [Laid] in
theorem frzAll_len:∀ (ts:List Nat) (hp:List Blk),(frzAll hp ts).length = hp.length
 | [],_ => rfl
 | t :: ts,hp => by rw [frzAll,frzAll_len ts,frz1_len]
omit [Laid] in
theorem frzAll_other:∀ (ts:List Nat) (hp:List Blk) (u:Nat),u ∉ ts→(frzAll hp ts)[u]? = hp[u]?
 | [],_,_,_ => rfl
 | t :: ts,hp,u,h => by
  simp only [List.mem_cons,not_or] at h
  rw [frzAll,frzAll_other ts _ u h.2,frz1_other h.1]
omit [Laid] in
theorem frzAll_same:∀ (ts:List Nat) (hp hp2:List Blk) (T:List Nat),hp2.length = hp.length→(∀ t∈ts,t∈T)→(∀ t∈T,hp2[t]? = hp[t]?)→∀ t∈T,(frzAll hp2 ts)[t]? = (frzAll hp ts)[t]?
 | [],_,_,_,_,_,h => h
 | t :: ts,hp,hp2,T,hl,hsub,h => by
  refine frzAll_same ts _ _ T (by rw [frz1_len,frz1_len,hl]) (fun u hu => hsub u (by simp [hu])) ?_
  intro u hu
  exact frz1_same hl (h t (hsub t (by simp))) (h u hu)

def liveS (hp:List Blk) (t:Nat):Bool := match hp[t]? with
 | some b => b.st.isLive
 | none => false
def wrC (hp:List Blk) (vs:List V) (s:Nat):List Nat := (vs.flatMap slots).filter (liveS hp) ++ [s]

omit [Laid] in
theorem wrC_congr {hp hp2:List Blk} {vs:List V} {s:Nat} (h:∀ t∈vs.flatMap slots ++ [s],hp2[t]? = hp[t]?):wrC hp2 vs s = wrC hp vs s := by
 unfold wrC
 congr 1
 apply List.filter_congr
 intro t ht
 unfold liveS
 rw [h t (List.mem_append_left _ ht)]
omit [Laid] in
theorem wrC_sub {hp:List Blk} {vs:List V} {s:Nat}:∀ t∈wrC hp vs s,t∈vs.flatMap slots ++ [s] := by
 intro t ht
 unfold wrC at ht
 rcases List.mem_append.1 ht with h | h
 ·exact List.mem_append_left _ (List.mem_filter.1 h).1
 ·exact List.mem_append_right _ h

omit [Laid] in
theorem frz1_dead {hp:List Blk} {t u:Nat} (h:liveS hp u = false):(frz1 hp t)[u]? = hp[u]? := by
 by_cases e:u = t
 ·subst e
  unfold liveS at h
  have:frz1 hp u = hp := by
   unfold frz1
   cases hb:hp[u]? with
   | none => rfl
   | some b =>
    rw [hb] at h
    simp only at h ⊢
    rw [h]
    rfl
  rw [this]
 ·exact frz1_other e
omit [Laid] in
theorem frzAll_dead:∀ (ts:List Nat) (hp:List Blk) (u:Nat),liveS hp u = false→(frzAll hp ts)[u]? = hp[u]?
 | [],_,_,_ => rfl
 | t :: ts,hp,u,h => by
  have h1 := frz1_dead (t := t) h
  rw [frzAll,frzAll_dead ts _ u (by unfold liveS at h ⊢; rw [h1]; exact h),h1]
omit [Laid] in
theorem frzAll_at {vs:List Nat} {hp:List Blk} {W:List Nat} {t:Nat} (hW:∀ u∈vs,liveS hp u = true→u∈W) (ht:t ∉ W):(frzAll hp vs)[t]? = hp[t]? := by
 cases hl:liveS hp t with
 | false => exact frzAll_dead vs hp t hl
 | true => exact frzAll_other vs hp t (fun e => ht (hW t e hl))

omit [Laid] in
theorem setAll_same:∀ (us:List (Nat×Blk)) (pss:List (List Pv)) (hp hp2:List Blk),hp2.length = hp.length→∀ (t:Nat),hp2[t]? = hp[t]?→(setAll hp2 us pss)[t]? = (setAll hp us pss)[t]?
 | [],_,_,_,_,_,h => h
 | _ :: _,[],_,_,_,_,h => h
 | q :: us,ps :: pss,hp,hp2,hl,t,h => by
  rw [setAll,setAll]
  refine setAll_same us pss _ _ (by simp [hl]) t ?_
  rw [List.getElem?_set,List.getElem?_set,hl]
  split
  ·rfl
  ·exact h

theorem callR_local {P:Program} {m s:Nat} {hp hp2:List Blk} {f:FuncId} {args:List V} {v:V} {hp' : List Blk} (h:CallR P m s hp f args v hp') (hl' : hp2.length = hp.length) (hT:∀ t∈args.flatMap slots ++ [s],hp2[t]? = hp[t]?) :
  ∃ hp2',CallR P m s hp2 f args v hp2'∧hp2'.length = hp2.length∧hp'.length = hp.length∧(∀ t,t ∉ wrC hp args s→hp2'[t]? = hp2[t]?)∧(∀ t,t ∉ wrC hp args s→hp'[t]? = hp[t]?)∧(∀ t∈wrC hp args s,hp2'[t]? = hp'[t]?) := by
 have hwr:∀ u∈args.flatMap slots,liveS hp u = true→u∈wrC hp args s := fun u hu hl => List.mem_append_left _ (List.mem_filter.2 ⟨hu,hl⟩)
 have hwr2:∀ u∈args.flatMap slots,liveS hp2 u = true→u∈wrC hp args s := fun u hu hl => hwr u hu (by unfold liveS at hl ⊢; rw [← hT u (List.mem_append_left _ hu)]; exact hl)
 have hpur:optAll (pur hp2) args = optAll (pur hp) args := optAll_congr args (fun x hx => pur_local (fun t ht => hT t (by simp only [List.mem_append,List.mem_flatMap]; exact .inl ⟨x,hx,ht⟩)))
 have hfz := frzAll_same (args.flatMap slots) hp hp2 (args.flatMap slots ++ [s]) hl' (fun t ht => by simp [List.mem_append,ht]) hT
 cases h with
 | pure as r has hm hr =>
  refine ⟨_,.pure as v (by rw [hpur]; exact has) hm hr,frzAll_len _ _,frzAll_len _ _,?_,?_,fun t ht => hfz t (wrC_sub t ht)⟩
  ·intro t ht; exact frzAll_at hwr2 ht
  ·intro t ht; exact frzAll_at hwr ht
 | own as r cs b has hm hr hb =>
  have hb2:(frzAll hp2 (args.flatMap slots))[s]? = some b := by rw [hfz s (by simp)]; exact hb
  have hll:(frzAll hp2 (args.flatMap slots)).length = (frzAll hp (args.flatMap slots)).length := by rw [frzAll_len,frzAll_len,hl']
  refine ⟨_,.own as r cs b (by rw [hpur]; exact has) hm hr hb2,by rw [List.length_set,frzAll_len],by rw [List.length_set,frzAll_len],?_,?_,?_⟩
  ·intro t ht
   have hne:¬ s = t := fun e => ht (List.mem_append_right _ (by simp [e]))
   rw [List.getElem?_set,if_neg hne]; exact frzAll_at hwr2 ht
  ·intro t ht
   have hne:¬ s = t := fun e => ht (List.mem_append_right _ (by simp [e]))
   rw [List.getElem?_set,if_neg hne]; exact frzAll_at hwr ht
  ·intro t ht
   rw [List.getElem?_set,List.getElem?_set,hll]
   split
   ·rfl
   ·exact hfz t (wrC_sub t ht)
 | io as r u b ps ps' hu hb hl h0 hps has hm hr =>
  have hsub:∀ v∈args,∀ t∈ioS u b.ver v,t∈slots v := by
   intro v _ t ht
   cases v with
   | ptr t' ver' o =>
    simp only [ioS] at ht
    split at ht
    ·cases ht
    ·simpa [slots,slotC] using ht
   | _ => exact ht
  have hsubA:∀ t∈args.flatMap (ioS u b.ver),t∈args.flatMap slots := by
   intro t ht
   obtain ⟨v,hv,ht⟩ := List.mem_flatMap.1 ht
   exact List.mem_flatMap.2 ⟨v,hv,hsub v hv t ht⟩
  have huT:u∈args.flatMap slots ++ [s] := List.mem_append_left _ hu
  have huW:u∈wrC hp args s := hwr u hu (by unfold liveS; rw [hb]; simp only [hl]; rfl)
  have hb2:hp2[u]? = some b := by rw [hT u huT]; exact hb
  have hio:optAll (ioV u b.ver hp2) args = optAll (ioV u b.ver hp) args := optAll_congr args (fun x hx => by
   have hpl:pur hp2 x = pur hp x := pur_local (fun t ht => hT t (by simp only [List.mem_append,List.mem_flatMap]; exact .inl ⟨x,hx,ht⟩))
   cases x with
   | ptr t' ver' o =>
    simp only [ioV]
    split
    ·rfl
    ·exact hpl
   | _ => exact hpl)
  have hfz2 := frzAll_same (args.flatMap (ioS u b.ver)) hp hp2 (args.flatMap slots ++ [s]) hl' (fun t ht => List.mem_append_left _ (hsubA t ht)) hT
  have hll:(frzAll hp2 (args.flatMap (ioS u b.ver))).length = (frzAll hp (args.flatMap (ioS u b.ver))).length := by rw [frzAll_len,frzAll_len,hl']
  refine ⟨_,.io as v u b ps ps' hu hb2 hl h0 hps (by rw [hio]; exact has) hm hr,by rw [List.length_set,frzAll_len],by rw [List.length_set,frzAll_len],?_,?_,?_⟩
  ·intro t ht
   have hne:¬ u = t := fun e => ht (e ▸ huW)
   rw [List.getElem?_set,if_neg hne]; exact frzAll_at (fun v hv hl => hwr2 v (hsubA v hv) hl) ht
  ·intro t ht
   have hne:¬ u = t := fun e => ht (e ▸ huW)
   rw [List.getElem?_set,if_neg hne]; exact frzAll_at (fun v hv hl => hwr v (hsubA v hv) hl) ht
  ·intro t ht
   rw [List.getElem?_set,List.getElem?_set,hll]
   split
   ·rfl
   ·exact hfz2 t (wrC_sub t ht)
 | ion as r us pss pss' hnd hu hb hps has hm hr =>
  have hsub:∀ v∈args,∀ t∈ioSN us v,t∈slots v := by
   intro v _ t ht
   cases v with
   | ptr t' ver' o =>
    simp only [ioSN] at ht
    split at ht
    ·cases ht
    ·simpa [slots,slotC] using ht
   | ref t' ver' o n k =>
    simp only [ioSN] at ht
    split at ht
    ·cases ht
    ·simpa [slots,slotC] using ht
   | _ => exact ht
  have hsubA:∀ t∈args.flatMap (ioSN us),t∈args.flatMap slots := by
   intro t ht
   obtain ⟨v,hv,ht⟩ := List.mem_flatMap.1 ht
   exact List.mem_flatMap.2 ⟨v,hv,hsub v hv t ht⟩
  have huT:∀ q∈us,q.1∈args.flatMap slots ++ [s] := fun q hq => List.mem_append_left _ (hu q hq)
  have huW:∀ t∈us.map (·.1),t∈wrC hp args s := by
   intro t ht
   obtain ⟨q,hq,rfl⟩ := List.mem_map.1 ht
   exact hwr q.1 (hu q hq) (by unfold liveS; rw [(hb q hq).1]; simp only [(hb q hq).2.1]; rfl)
  have hb2:∀ q∈us,hp2[q.1]? = some q.2∧q.2.st = .live∧0 < q.2.cs.length := fun q hq => ⟨by rw [hT q.1 (huT q hq)]; exact (hb q hq).1,(hb q hq).2⟩
  have hio:optAll (ioVN us hp2) args = optAll (ioVN us hp) args := optAll_congr args (fun x hx => by
   have hpl:pur hp2 x = pur hp x := pur_local (fun t ht => hT t (by simp only [List.mem_append,List.mem_flatMap]; exact .inl ⟨x,hx,ht⟩))
   cases x with
   | ptr t' ver' o =>
    simp only [ioVN]
    split
    ·rfl
    ·exact hpl
   | ref t' ver' o n k =>
    simp only [ioVN]
    split
    ·rfl
    ·exact hpl
   | _ => exact hpl)
  have hfz2 := frzAll_same (args.flatMap (ioSN us)) hp hp2 (args.flatMap slots ++ [s]) hl' (fun t ht => List.mem_append_left _ (hsubA t ht)) hT
  have hll:(frzAll hp2 (args.flatMap (ioSN us))).length = (frzAll hp (args.flatMap (ioSN us))).length := by rw [frzAll_len,frzAll_len,hl']
  refine ⟨_,.ion as v us pss pss' hnd hu hb2 hps (by rw [hio]; exact has) hm hr,by rw [setAll_len,frzAll_len],by rw [setAll_len,frzAll_len],?_,?_,?_⟩
  ·intro t ht
   rw [setAll_other us pss' _ t (fun e => ht (huW t e))]; exact frzAll_at (fun v hv hl => hwr2 v (hsubA v hv) hl) ht
  ·intro t ht
   rw [setAll_other us pss' _ t (fun e => ht (huW t e))]; exact frzAll_at (fun v hv hl => hwr v (hsubA v hv) hl) ht
  ·intro t ht
   exact setAll_same us pss' _ _ hll t (hfz2 t (wrC_sub t ht))

def optsI (i:AIns):List Opd := match i.op with
 | .op o => opdsO o
 | .call _ _ args => args
 | .callv _ x args => x :: args
def tmpsOf (l:List Opd):List Nat := l.filterMap fun | .t n => some n | .c _ => none
def rdI (i:AIns):List Nat := tmpsOf (optsI i) ++ (match i.guard with | some (some g,_) => [g] | _ => [])

def actV (P:Program) (m:Nat) (st:St) (i:AIns) (T W:List Nat) (v:V) (hp' : List Blk):Prop :=
 match i.op with
 | .op op => astep st.hp st.get op = some (v,hp')∧T = touch st.get op∧W = wrs st.get op
 | .call s f args => CallR P m s st.hp f (args.map st.get) v hp'∧T = (args.map st.get).flatMap slots ++ [s]∧W = wrC st.hp (args.map st.get) s
 | .callv s x args => match st.get x with
  | .clo f caps => callable P f = true∧CallR P m s st.hp f (args.map st.get ++ caps) v hp'∧T = (args.map st.get ++ caps).flatMap slots ++ [s]∧W = wrC st.hp (args.map st.get ++ caps) s
  | .p (.fn f caps) => callable P f = true∧CallR P m s st.hp f (args.map st.get ++ caps.map .ipt) v hp'∧T = (args.map st.get ++ caps.map V.ipt).flatMap slots ++ [s]∧W = wrC st.hp (args.map st.get ++ caps.map V.ipt) s
  | _ => False

def stepV (P:Program) (m:Nat) (st:St) (i:AIns) (T W:List Nat) (v:V) (hp' : List Blk):Prop :=
 match i.guard with
 | none => actV P m st i T W v hp'
 | some (some g,want) => (∃ b,st.get (.t g) = .p (.bool b)∧if b = want then actV P m st i T W v hp' else v = .no∧hp' = st.hp∧T = []∧W = []) ∨ (st.get (.t g) = .no∧v = .no∧hp' = st.hp∧T = []∧W = [])
 | some (none,_) => False

def LocalR (hp hp2 hp' hp2' : List Blk) (W:List Nat):Prop :=
 hp2'.length = hp2.length∧hp'.length = hp.length∧(∀ t,t ∉ W→hp2'[t]? = hp2[t]?)∧(∀ t,t ∉ W→hp'[t]? = hp[t]?)∧(∀ t∈W,hp2'[t]? = hp'[t]?)

omit [Laid] in
theorem wrs_touch {g:Opd→V} {op:AOp}:∀ t∈wrs g op,t∈touch g op := by
 intro t ht; unfold wrs at ht; split at ht
 ·exact ht
 ·cases ht

omit [Laid] in
theorem get_congr {st st2:St} {x:Opd} (h:∀ n∈tmpsOf [x],st2.ts[n]? = st.ts[n]?):st2.get x = st.get x := by
 cases x with
 | t n => simp only [St.get]; rw [h n (by simp [tmpsOf])]
 | c v => rfl

theorem actV_local {P:Program} {m:Nat} {st st2:St} {i:AIns} {T W:List Nat} {v:V} {hp' : List Blk} (h:actV P m st i T W v hp') (hr:∀ n∈tmpsOf (optsI i),st2.ts[n]? = st.ts[n]?) (hl:st2.hp.length = st.hp.length) (hT:∀ t∈T,st2.hp[t]? = st.hp[t]?) :
  (∀ t∈W,t∈T)∧∃ hp2',actV P m st2 i T W v hp2'∧LocalR st.hp st2.hp hp' hp2' W := by
 have hg:∀ x∈optsI i,st2.get x = st.get x := by
  intro x hx
  refine get_congr fun n hn => hr n ?_
  simp only [tmpsOf,List.mem_filterMap,List.mem_singleton,exists_eq_left] at hn ⊢
  exact ⟨x,hx,hn⟩
 unfold actV at h
 unfold optsI at hg
 split at h
 ·rename_i op hop
  rw [hop] at hg
  obtain ⟨h1,rfl,rfl⟩ := h
  refine ⟨wrs_touch,?_⟩
  have he:astep st2.hp st2.get op = astep st2.hp st.get op := astep_g hg
  obtain ⟨hp2',k1,k2⟩ := astep_local (hp := st.hp) (hp2 := st2.hp) v hp' h1 hl hT
  refine ⟨hp2',?_,k2⟩
  unfold actV
  rw [hop]
  have ht:touch st2.get op = touch st.get op := by
   cases op <;> simp only [touch] <;> first
    | rfl
    | (rename_i own _ _ _ _ _; cases own <;> rfl)
    | (rw [hg _ (by simp [opdsO])]; done)
    | (rw [hg _ (by simp [opdsO]),hg _ (by simp [opdsO])])
  exact ⟨he.trans k1,ht.symm,by unfold wrs; rw [ht]⟩
 ·rename_i s f args hop
  rw [hop] at hg
  obtain ⟨h1,rfl,rfl⟩ := h
  refine ⟨wrC_sub,?_⟩
  have ha:args.map st2.get = args.map st.get := List.map_congr_left hg
  obtain ⟨hp2',k1,k2⟩ := callR_local h1 hl hT
  refine ⟨hp2',?_,k2⟩
  unfold actV
  rw [hop]
  dsimp only
  rw [ha]
  exact ⟨k1,rfl,(wrC_congr hT).symm⟩
 ·rename_i s x args hop
  rw [hop] at hg
  have hx:st2.get x = st.get x := hg x (by simp)
  have ha:args.map st2.get = args.map st.get := List.map_congr_left (fun y hy => hg y (by simp [hy]))
  split at h
  ·rename_i f caps hc
   obtain ⟨h0,h1,rfl,rfl⟩ := h
   refine ⟨wrC_sub,?_⟩
   obtain ⟨hp2',k1,k2⟩ := callR_local h1 hl hT
   refine ⟨hp2',?_,k2⟩
   unfold actV
   rw [hop]
   dsimp only
   rw [hx,hc]
   dsimp only
   rw [ha]
   exact ⟨h0,k1,rfl,(wrC_congr hT).symm⟩
  ·rename_i f caps hc
   obtain ⟨h0,h1,rfl,rfl⟩ := h
   refine ⟨wrC_sub,?_⟩
   obtain ⟨hp2',k1,k2⟩ := callR_local h1 hl hT
   refine ⟨hp2',?_,k2⟩
   unfold actV
   rw [hop]
   dsimp only
   rw [hx,hc]
   dsimp only
   rw [ha]
   exact ⟨h0,k1,rfl,(wrC_congr hT).symm⟩
  ·exact h.elim

theorem stepV_local {P:Program} {m:Nat} {st st2:St} {i:AIns} {T W:List Nat} {v:V} {hp' : List Blk} (h:stepV P m st i T W v hp') (hr:∀ n∈rdI i,st2.ts[n]? = st.ts[n]?) (hl:st2.hp.length = st.hp.length) (hT:∀ t∈T,st2.hp[t]? = st.hp[t]?) :
  (∀ t∈W,t∈T)∧∃ hp2',stepV P m st2 i T W v hp2'∧LocalR st.hp st2.hp hp' hp2' W := by
 have hr1:∀ n∈tmpsOf (optsI i),st2.ts[n]? = st.ts[n]? := fun n hn => hr n (by simp [rdI,hn])
 unfold stepV at h
 split at h
 ·rename_i hg
  obtain ⟨k0,hp2',k1,k2⟩ := actV_local h hr1 hl hT
  exact ⟨k0,hp2',by unfold stepV; rw [hg]; exact k1,k2⟩
 ·rename_i g want hg
  have hb:st2.get (.t g) = st.get (.t g) := get_congr (fun n hn => by simp [tmpsOf] at hn; subst hn; exact hr _ (by simp [rdI,hg]))
  rcases h with ⟨b,h1,h2⟩ | ⟨h1,rfl,rfl,rfl,rfl⟩
  rotate_left
  ·exact ⟨fun _ e => e,st2.hp,by unfold stepV; rw [hg]; exact .inr ⟨by rw [hb]; exact h1,rfl,rfl,rfl,rfl⟩,rfl,rfl,fun _ _ => rfl,fun _ _ => rfl,fun t ht => by cases ht⟩
  split at h2
  ·rename_i e
   obtain ⟨k0,hp2',k1,k2⟩ := actV_local h2 hr1 hl hT
   exact ⟨k0,hp2',by unfold stepV; rw [hg]; exact .inl ⟨b,by rw [hb]; exact h1,by rw [if_pos e]; exact k1⟩,k2⟩
  ·rename_i e
   obtain ⟨rfl,rfl,rfl,rfl⟩ := h2
   refine ⟨fun _ e => e,st2.hp,by unfold stepV; rw [hg]; exact .inl ⟨b,by rw [hb]; exact h1,by rw [if_neg e]; exact ⟨rfl,rfl,rfl,rfl⟩⟩,rfl,rfl,fun _ _ => rfl,fun _ _ => rfl,fun t ht => by cases ht⟩
 ·exact h.elim

def dstOk (d:Option Nat) (l:List Nat):Bool := match d with | some d => !l.contains d | none => true
def dstNe (d e:Option Nat):Bool := match d,e with | some d,some e => d != e | _,_ => true
def apartI (x y:AIns):Bool := dstOk x.dst (rdI y) && dstOk y.dst (rdI x) && dstNe x.dst y.dst
def disj (a b:List Nat):Bool := a.all fun x => !b.contains x

omit [Laid] in
theorem put_ts_other {st:St} {hp:List Blk} {d:Option Nat} {v:V} {l:List Nat} (h:dstOk d l = true):∀ n∈l,(St.put ⟨st.ts,hp⟩ d v).ts[n]? = st.ts[n]? := by
 intro n hn
 cases d with
 | none => rfl
 | some d =>
  simp only [dstOk,Bool.not_eq_true',List.contains_eq_mem,decide_eq_false_iff_not] at h
  simp only [St.put]
  rw [List.getElem?_set,if_neg (fun e => h (by rw [e]; exact hn))]
omit [Laid] in
theorem put_hp {st:St} {d:Option Nat} {v:V}:(St.put st d v).hp = st.hp := by cases d <;> rfl

omit [Laid] in
theorem disj_not {a b:List Nat} (h:disj a b = true):∀ t∈a,t ∉ b := by
 intro t ht
 simp only [disj,List.all_eq_true,Bool.not_eq_true',List.contains_eq_mem,decide_eq_false_iff_not] at h
 exact h t ht

theorem swap {P:Program} {m:Nat} {st:St} {x y:AIns} {T W T' W' : List Nat} {v v' : V} {hp1 hp2:List Blk} (hx:stepV P m st x T W v hp1) (hy:stepV P m (St.put ⟨st.ts,hp1⟩ x.dst v) y T' W' v' hp2) (ha:apartI x y = true)
  (h1:disj T W' = true) (h2:disj T' W = true) :
  ∃ k1 k2,stepV P m st y T' W' v' k1∧stepV P m (St.put ⟨st.ts,k1⟩ y.dst v') x T W v k2∧St.put ⟨(St.put ⟨st.ts,k1⟩ y.dst v').ts,k2⟩ x.dst v = St.put ⟨(St.put ⟨st.ts,hp1⟩ x.dst v).ts,hp2⟩ y.dst v' := by
 simp only [apartI,Bool.and_eq_true] at ha
 obtain ⟨⟨a1,a2⟩,a3⟩ := ha
 -- x writes only W
 obtain ⟨hWT,_,_,lx⟩ := stepV_local (st2 := st) hx (fun _ _ => rfl) rfl (fun _ _ => rfl)
 obtain ⟨lx1,lx2,lx3,lx4,lx5⟩ := lx
 -- y at st
 obtain ⟨hWT',k1,hy1,ly⟩ := stepV_local (st2 := st) hy (fun n hn => (put_ts_other a1 n hn).symm) (by rw [put_hp]; exact lx2.symm) (fun t ht => by
  rw [put_hp]
  exact (lx4 t (disj_not h2 t ht)).symm)
 obtain ⟨ly1,ly2,ly3,ly4,ly5⟩ := ly
 rw [put_hp] at ly2 ly4
 -- x behind y
 obtain ⟨_,k2,hx1,lz⟩ := stepV_local (st2 := St.put ⟨st.ts,k1⟩ y.dst v') hx (fun n hn => put_ts_other a2 n hn) (by rw [put_hp]; exact ly1) (fun t ht => by
  rw [put_hp]
  exact ly3 t (disj_not h1 t ht))
 obtain ⟨lz1,lz2,lz3,lz4,lz5⟩ := lz
 rw [put_hp] at lz1 lz3
 refine ⟨k1,k2,hy1,hx1,?_⟩
 have hheap:k2 = hp2 := by
  apply List.ext_getElem?
  intro t
  by_cases hW:t∈W
  ·have hW' : t ∉ W' := disj_not h1 t (hWT t hW)
   rw [lz5 t hW,ly4 t hW']
  ·rw [lz3 t hW]
   by_cases hW' : t∈W'
   ·rw [ly5 t hW']
   ·rw [ly3 t hW',ly4 t hW']
    exact (lx4 t hW).symm
 rw [hheap]
 cases hdx:x.dst with
 | none => cases y.dst <;> rfl
 | some dx =>
  cases hdy:y.dst with
  | none => rfl
  | some dy =>
   simp only [St.put]
   rw [hdx,hdy] at a3
   simp only [dstNe,bne_iff_ne,ne_eq] at a3
   rw [List.set_comm _ _ (fun e => a3 e.symm)]

def Run (P:Program) (m:Nat) (il:List AIns) (F:List (List Nat×List Nat)):List Nat→St→St→Prop
 | [],st,st' => st' = st
 | i :: r,st,st' => ∃ ins v hp',il[i]? = some ins∧stepV P m st ins (F.getD i ([],[])).1 (F.getD i ([],[])).2 v hp'∧Run P m il F r (St.put ⟨st.ts,hp'⟩ ins.dst v) st'

def Indep (il:List AIns) (F:List (List Nat×List Nat)) (x y:Nat):Prop :=
 ∀ ix iy,il[x]? = some ix→il[y]? = some iy→apartI ix iy = true∧disj (F.getD x ([],[])).1 (F.getD y ([],[])).2 = true∧disj (F.getD y ([],[])).1 (F.getD x ([],[])).2 = true

theorem bubble {P:Program} {m:Nat} {il:List AIns} {F:List (List Nat×List Nat)} {i:Nat} {post:List Nat} {st' : St}:∀ (pre:List Nat) (st:St),Run P m il F (pre ++ i :: post) st st'→(∀ j∈pre,Indep il F j i) →
  ∃ ins v hp',il[i]? = some ins∧stepV P m st ins (F.getD i ([],[])).1 (F.getD i ([],[])).2 v hp'∧Run P m il F (pre ++ post) (St.put ⟨st.ts,hp'⟩ ins.dst v) st'
 | [],st,h,_ => h
 | j :: pre,st,h,hI => by
  obtain ⟨jns,u,hq,hj,h1,h2⟩ := h
  obtain ⟨ins,v,hp',hi,h3,h4⟩ := bubble pre _ h2 (fun k hk => hI k (by simp [hk]))
  obtain ⟨a1,a2,a3⟩ := hI j (by simp) jns ins hj hi
  obtain ⟨k1,k2,g1,g2,g3⟩ := swap h1 h3 a1 a2 a3
  refine ⟨ins,v,k1,hi,g1,jns,u,k2,hj,g2,?_⟩
  rw [g3]; exact h4

def predsOf (o:Oper):List Nat := o.after.toList.filterMap fun e => if Region.binds .any e then some e.on else none
def closAdd (acc:List Nat) (ps:List Nat):Nat := ps.foldl (fun s p => s ||| (2 ^ p ||| acc.getD p 0)) 0
def clos:List (List Nat)→List Nat→List Nat
 | [],acc => acc
 | ps :: r,acc => clos r (acc ++ [closAdd acc ps])

omit [Laid] in
theorem foldl_bit (acc:List Nat):∀ (ps:List Nat) (s j:Nat),(ps.foldl (fun s p => s ||| (2 ^ p ||| acc.getD p 0)) s).testBit j = true→s.testBit j = true ∨ ∃ p∈ps,j = p ∨ (acc.getD p 0).testBit j = true
 | [],s,j,h => .inl h
 | p :: ps,s,j,h => by
  rcases foldl_bit acc ps _ j h with h1 | ⟨q,hq,h2⟩
  ·rw [Nat.testBit_or,Nat.testBit_or,Bool.or_eq_true,Bool.or_eq_true] at h1
   rcases h1 with h1 | h1 | h1
   ·exact .inl h1
   ·rw [Nat.testBit_two_pow] at h1
    exact .inr ⟨p,by simp,.inl (of_decide_eq_true h1).symm⟩
   ·exact .inr ⟨p,by simp,.inr h1⟩
  ·exact .inr ⟨q,by simp [hq],h2⟩

omit [Laid] in
theorem clos_spec (E:Nat→Prop) (all:List (List Nat)) (hE:∀ k ps,E k→all[k]? = some ps→∀ p∈ps,E p):∀ (r:List (List Nat)) (acc:List Nat) (pre:List (List Nat)),all = pre ++ r→acc.length = pre.length →
  (∀ (i c:Nat) (ps:List Nat),acc[i]? = some c→all[i]? = some ps→(∀ p∈ps,E p)→∀ j,c.testBit j = true→E j)→∀ (i c:Nat) (ps:List Nat),(clos r acc)[i]? = some c→all[i]? = some ps→(∀ p∈ps,E p)→∀ j,c.testBit j = true→E j
 | [],acc,pre,_,_,h => h
 | ps :: r,acc,pre,hall,hlen,h => by
  rw [clos]
  refine clos_spec E all hE r _ (pre ++ [ps]) (by rw [hall]; simp) (by simp [hlen]) ?_
  intro i c qs hc hq hqs j hj
  rw [List.getElem?_append] at hc
  split at hc
  ·exact h i c qs hc hq hqs j hj
  ·rename_i hlt
   have hi:i = acc.length := by
    have := (List.getElem?_eq_some_iff.1 hc).1
    simp at this; omega
   subst hi
   simp only [Nat.sub_self,List.getElem?_cons_zero,sJ] at hc
   have hps:all[acc.length]? = some ps := by rw [hall,hlen]; simp
   rw [hps] at hq; injection hq with hq; subst hq
   subst hc
   rcases foldl_bit acc ps 0 j hj with h1 | ⟨p,hp,h2⟩
   ·simp at h1
   ·rcases h2 with rfl | h2
    ·exact hqs _ hp
    ·have hplt:p < acc.length := by
      rcases Nat.lt_or_ge p acc.length with hh | hh
      ·exact hh
      ·rw [List.getD,List.getElem?_eq_none hh] at h2; simp at h2
     have hpa:acc[p]? = some (acc.getD p 0) := by simp [List.getD,hplt]
     have hpl:p < all.length := by rw [hall]; simp; omega
     exact h p _ all[p] hpa (List.getElem?_eq_getElem hpl) (hE p all[p] (hqs p hp) (List.getElem?_eq_getElem hpl)) j h2

omit [Laid] in
theorem touch_N {g:Opd→V} {op:AOp} (hn:isN op = true):touch g op = [] := by
 cases op with
 | bsl own s k n z ps =>
  cases own
  ·rfl
  ·simp [isN] at hn
 | _ => first | rfl | (simp [isN] at hn; done)

def heapy (i:AIns):Bool := match i.op with
 | .op o => !isN o
 | _ => true

def openPairs (cl:List Nat) (n:Nat):List (Nat×Nat) := (List.range n).flatMap fun y => ((List.range y).filter fun x => !(cl.getD y 0).testBit x).map fun x => (x,y)

def pairOk (il:List AIns) (p:Nat×Nat):Bool := match il[p.1]?,il[p.2]? with
 | some x,some y => apartI x y
 | _,_ => false
def pairHeap (il:List AIns) (p:Nat×Nat):Bool := match il[p.1]?,il[p.2]? with
 | some x,some y => heapy x && heapy y
 | _,_ => true

def okF (F:List (List Nat×List Nat)) (pairs:List (Nat×Nat)):Bool := pairs.all fun p => disj (F.getD p.1 ([],[])).1 (F.getD p.2 ([],[])).2 && disj (F.getD p.2 ([],[])).1 (F.getD p.1 ([],[])).2

def cIl (P:Program) (sites:List Nat) (ops:Array Oper):Option (List AIns) := optAll (cIns P sites ops) ops.toList

def cRegD (P:Program) (sites:List Nat) (ops:Array Oper):Option (List AIns×List (Nat×Nat)) :=
 match cIl P sites ops with
 | some il =>
  let pr := ops.toList.map predsOf
  let ps := openPairs (clos pr []) ops.size
  if P.follows .mixedOrders = true∧(pr.zipIdx.all fun q => q.1.all fun p => decide (p < q.2)) = true∧ps.all (pairOk il) = true then some (il,ps.filter (pairHeap il)) else none
 | none => none
end Go.Mx
