/- Layers of the walk: abstract values, operations, calls, loops, and what they do. No condition. -/
import Derived.Test.YtepdfhjmngbhhaaGreatDoorMxO
namespace Go.Mx
variable [Laid]
open Go.RowKit

section
variable {P:Program} {m:Nat} {w0:World} {S0 Jo:Nat→Prop} {D:Bs} {Φ:Plc} {S:Nat→Prop} {st:St} {a:Act} {w:World}

theorem Sim.other (h:Sim m w0 S0 Jo D Φ S st a w) {l:Nat} {o o' : Obj} (hl:w.heap[l]? = some o) (hc:∀ arr ty fz,o ≠ Obj.cells arr ty fz) (hd:∀ x,o ≠ Obj.deferred x) (hS:¬ S l) (h0:w0.heap.size≤l):Sim m w0 S0 Jo D Φ S st a (w.putObj l o') := by
 have hne:∀ c arr ty fz,w.heap[c]? = some (.cells arr ty fz)→c ≠ l := fun c arr ty fz e e' => by subst e'; rw [hl] at e; injection e with e; exact hc _ _ _ e
 have hw:∀ b,S b→(w.putObj l o').heap[b]? = w.heap[b]? := fun b hb => World.putObj_heap_other (fun e => hS (e ▸ hb))
 refine ⟨h.defers.keep fun r x e => (World.putObj_heap_other (fun e' => by subst e'; rw [hl] at e; injection e with e; exact hd _ e)).trans e,h.same,h.size,fun t v hv => (h.ts t v hv).mono (fun _ _ _ e => e) (fun _ e => e) hw,?_,h.fresh,h.inj,fun b hb => by rw [World.putObj_size]; exact h.Slt b hb,h.Sold,h.Snew,?_,h.io,h.glob.mono (fun _ e => e) hw⟩
 ·intro t b hb
  have hB := h.hp t b hb
  unfold BRel at hB ⊢
  split at hB
  ·trivial
  ·rcases hB with hB | ⟨c,sz,arr,ty,k1,k2,k3,k4,k5,k6,k7⟩
   ·exact .inl hB
   ·exact .inr ⟨c,sz,arr,ty,k1,(World.putObj_heap_other (hne _ _ _ _ k2)).trans k2,k3,k4,fun i x hx => (k5 i x hx).mono (fun _ _ _ e => e) (fun _ e => e) hw,k6,k7⟩
  ·rcases hB with hB | ⟨c,sz,k1,k2,arr,ty,fz,k3,k4,k5⟩
   ·exact .inl hB
   ·exact .inr ⟨c,sz,k1,k2,arr,ty,fz,(World.putObj_heap_other (hne _ _ _ _ k3)).trans k3,k4,fun i x hx => (k5 i x hx).mono (fun _ _ _ e => e) (fun _ e => e) hw⟩
 ·have hf := h.frame
  exact ⟨hf.os,hf.tape,hf.output,by rw [World.putObj_size]; exact hf.size,fun b hb hio => (World.putObj_heap_other (by omega)).trans (hf.block b hb hio)⟩

def liveB (Φ:Plc) (st:St) (c:Nat):Prop := ∃ t b sz,st.hp[t]? = some b∧b.st = .live∧Φ t b.ver = some (.blk c sz)

theorem liveB_cells (h:Sim m w0 S0 Jo D Φ S st a w) {c:Nat} (hc:liveB Φ st c):(∃ arr ty,w.heap[c]? = some (.cells arr ty (0,0)))∧¬ S c∧(Jo c ∨ w0.heap.size≤c) := by
 obtain ⟨t,b,sz,hb,hl,hp⟩ := hc
 obtain ⟨arr,ty,k1,k2,k3,k4,k5,k6⟩ := live_of h hb hl hp
 exact ⟨⟨arr,ty,k1⟩,k5,k6⟩

omit [Laid] in
theorem maskT_get {bs:List Nat}:∀ {ts:List V} {t:Nat} {v:V},(maskT bs ts)[t]? = some v→v = .und ∨ (t ∉ bs∧ts[t]? = some v) := by
 induction bs with
 | nil => intro ts t v h; exact .inr ⟨by simp,h⟩
 | cons k bs ih =>
  intro ts t v h
  rcases ih (ts := ts.set k .und) h with h | ⟨h1,h2⟩
  ·exact .inl h
  ·rw [List.getElem?_set] at h2
   by_cases e:k = t
   ·rw [if_pos e] at h2
    split at h2
    ·left; simpa using h2.symm
    ·cases h2
   ·rw [if_neg e] at h2
    exact .inr ⟨by simp [h1]; exact fun e' => e e'.symm,h2⟩
omit [Laid] in
theorem maskT_len {bs:List Nat}:∀ {ts:List V},(maskT bs ts).length = ts.length := by
 induction bs with
 | nil => intro ts; rfl
 | cons k bs ih => intro ts; exact (ih (ts := ts.set k .und)).trans (by simp)

def putsA:List (Nat×Value)→Array Value→Array Value
 | [],t => t
 | (p,v) :: r,t => putsA r (t.setIfInBounds p v)
omit [Laid] in
theorem putsA_foldl:∀ (l:List (Nat×Value)) (t:Array Value),l.foldl (fun t (x:Nat×Value) => t.setIfInBounds x.1 x.2) t = putsA l t
 | [],_ => rfl
 | _ :: r,t => putsA_foldl r _
omit [Laid] in
theorem putsA_size:∀ (l:List (Nat×Value)) (t:Array Value),(putsA l t).size = t.size
 | [],_ => rfl
 | (p,v) :: r,t => (putsA_size r _).trans (by simp)
omit [Laid] in
theorem putsT_len:∀ (l:List (Nat×V)) (t:List V),(putsT l t).length = t.length
 | [],_ => rfl
 | (p,v) :: r,t => (putsT_len r _).trans (by simp)
omit [Laid] in
theorem putsA_other:∀ (l:List (Nat×Value)) (t:Array Value) (k:Nat),k ∉ l.map (·.1)→(putsA l t).getD k undef = t.getD k undef
 | [],_,_,_ => rfl
 | (p,v) :: r,t,k,h => by
  simp only [List.map_cons,List.mem_cons,not_or] at h
  exact (putsA_other r _ k h.2).trans (by rw [getD_set,if_neg (fun e => h.1 e.1.symm)])
omit [Laid] in
theorem puts_rel:∀ (ps:List Nat) (xs:List V) (vs:List Value) (ts:List V) (t:Array Value),xs.length = vs.length→t.size = ts.length→(∀ i v,ts[i]? = some v→VRel Φ S w v (t.getD i undef)) →
  (∀ (i:Nat) (v:V),xs[i]? = some v→VRel Φ S w v ((vs[i]?).getD undef))→∀ i v,(putsT (ps.zip xs) ts)[i]? = some v→VRel Φ S w v ((putsA (ps.zip vs) t).getD i undef)
 | [],_,_,_,_,_,_,h,_ => by simpa [putsT,putsA] using h
 | _ :: _,[],[],_,_,_,_,h,_ => by simpa [putsT,putsA] using h
 | _ :: _,[],_ :: _,_,_,hl,_,_,_ => by simp at hl
 | _ :: _,_ :: _,[],_,_,hl,_,_,_ => by simp at hl
 | p :: ps,x :: xs,y :: vs,ts,t,hl,hs,h,hv => by
  simp only [List.zip_cons_cons,putsT,putsA]
  refine puts_rel ps xs vs _ _ (by simpa using hl) (by simpa using hs) ?_ (fun i v hi => by simpa using hv (i + 1) v (by simpa using hi))
  intro i v hi
  rw [getD_set]
  rw [List.getElem?_set] at hi
  by_cases e:p = i
  ·rw [if_pos e] at hi
   split at hi
   ·rename_i hlt
    rw [if_pos ⟨e,by rw [hs]; omega⟩]
    simp only [sJ] at hi; subst hi
    simpa using hv 0 x rfl
   ·cases hi
  ·rw [if_neg e] at hi
   rw [if_neg (fun hh => e hh.1)]
   exact h i v hi

theorem round_sim (h:Sim m w0 S0 Jo D Φ S st a w) {bs ps:List Nat} (hps:∀ p∈ps,p∈bs) {xs:List V} {vs:List Value} (hl:xs.length = vs.length) (hv:∀ (i:Nat) (v:V),xs[i]? = some v→VRel Φ S w v ((vs[i]?).getD undef)) :
  Sim m w S (liveB Φ st) ⟨fun t => t ∉ bs,fun t => a.tmps.getD t undef,fun n _ => n = a.tmps.size,0,D.iob⟩ Φ S (st.puts ps xs) ⟨putsA (ps.zip vs) a.tmps,[]⟩ w := by
 refine ⟨trivial,⟨fun t ht => putsA_other _ _ _ (fun hm => ht (hps t ?_)),putsA_size _ _⟩,?_,puts_rel ps xs vs st.ts a.tmps hl h.size h.ts hv,?_,h.fresh,h.inj,h.Slt,fun _ e => e,fun _ e => .inl e,Fr.refl _ _,h.io,h.glob⟩
 ·obtain ⟨q,hq,rfl⟩ := List.mem_map.1 hm
  exact (List.of_mem_zip hq).1
 ·show (putsA _ _).size = (putsT _ _).length
  rw [putsA_size,putsT_len]; exact h.size
 ·intro t b hb
  have hB := h.hp t b hb
  unfold BRel at hB ⊢
  split at hB
  ·trivial
  ·rename_i hl'
   rcases hB with hB | ⟨c,sz,arr,ty,k1,k2,k3,k4,k5,k6,k7⟩
   ·exact .inl hB
   ·exact .inr ⟨c,sz,arr,ty,k1,k2,k3,k4,k5,k6,.inl ⟨t,b,sz,hb,hl',k1⟩⟩
  ·exact hB

theorem turn_sim (h:Sim m w0 S0 Jo D Φ S st a w) {l:Nat} {o o' : Obj} (hl:w.heap[l]? = some o) (hc:∀ arr ty fz,o ≠ Obj.cells arr ty fz) (hd:∀ x,o ≠ Obj.deferred x) (hS:¬ S l):Sim m (w.putObj l o') S (liveB Φ st) D Φ S st a (w.putObj l o') := by
 have hne:∀ c arr ty fz,w.heap[c]? = some (.cells arr ty fz)→c ≠ l := fun c arr ty fz e e' => by subst e'; rw [hl] at e; injection e with e; exact hc _ _ _ e
 have hw:∀ b,S b→(w.putObj l o').heap[b]? = w.heap[b]? := fun b hb => World.putObj_heap_other (fun e => hS (e ▸ hb))
 refine ⟨h.defers.keep fun r x e => (World.putObj_heap_other (fun e' => by subst e'; rw [hl] at e; injection e with e; exact hd _ e)).trans e,h.same,h.size,fun t v hv => (h.ts t v hv).mono (fun _ _ _ e => e) (fun _ e => e) hw,?_,h.fresh,h.inj,fun b hb => by rw [World.putObj_size]; exact h.Slt b hb,fun _ e => e,fun _ e => .inl e,Fr.refl _ _,h.io,h.glob.mono (fun _ e => e) hw⟩
 intro t b hb
 have hB := h.hp t b hb
 unfold BRel at hB ⊢
 split at hB
 ·trivial
 ·rename_i hl'
  rcases hB with hB | ⟨c,sz,arr,ty,k1,k2,k3,k4,k5,k6,k7⟩
  ·exact .inl hB
  ·exact .inr ⟨c,sz,arr,ty,k1,(World.putObj_heap_other (hne _ _ _ _ k2)).trans k2,k3,k4,fun i x hx => (k5 i x hx).mono (fun _ _ _ e => e) (fun _ e => e) hw,k6,.inl ⟨t,b,sz,hb,hl',k1⟩⟩
 ·rcases hB with hB | ⟨c,sz,k1,k2,arr,ty,fz,k3,k4,k5⟩
  ·exact .inl hB
  ·exact .inr ⟨c,sz,k1,k2,arr,ty,fz,(World.putObj_heap_other (hne _ _ _ _ k3)).trans k3,k4,fun i x hx => (k5 i x hx).mono (fun _ _ _ e => e) (fun _ e => e) hw⟩

structure Ev (l:Nat) (L:Nat→Prop) (w w' : World) (S S' L' : Nat→Prop):Prop where
 os:w'.os = w.os
 tape:w'.tape = w.tape
 output:w'.output = w.output
 size:w.heap.size≤w'.heap.size
 block:∀ b,b < w.heap.size→¬ L b→b ≠ l→w'.heap[b]? = w.heap[b]?
 live:∀ c,L' c→L c ∨ w.heap.size≤c
 old:∀ b,S b→S' b
 new:∀ b,S' b→S b ∨ w.heap.size≤b ∨ L b
omit [Laid] in
theorem Ev.trans {l:Nat} {L L' L'' S S' S'' : Nat→Prop} {w w' w'' : World} (h:Ev l L w w' S S' L') (k:Ev l L' w' w'' S' S'' L''):Ev l L w w'' S S'' L'' := by
 refine ⟨k.os.trans h.os,k.tape.trans h.tape,k.output.trans h.output,Nat.le_trans h.size k.size,fun b hb hL hl => ?_,fun c hc => ?_,fun b hb => k.old b (h.old b hb),fun b hb => ?_⟩
 ·refine (k.block b (Nat.lt_of_lt_of_le hb h.size) (fun hL' => ?_) hl).trans (h.block b hb hL hl)
  rcases h.live b hL' with q | q
  ·exact hL q
  ·omega
 ·rcases k.live c hc with q | q
  ·exact h.live c q
  ·exact .inr (Nat.le_trans h.size q)
 ·rcases k.new b hb with q | q | q
  ·exact h.new b q
  ·exact .inr (.inl (Nat.le_trans h.size q))
  ·rcases h.live b q with q | q
   ·exact .inr (.inr q)
   ·exact .inr (.inl q)
theorem Ev.of_sim {l:Nat} {L:Nat→Prop} {Φ' : Plc} {S' : Nat→Prop} {st' : St} {a' : Act} {w' : World} {D' : Bs} (h:Sim m w S L D' Φ' S' st' a' w'):Ev l L w w' S S' (liveB Φ' st') := by
 have f := h.frame
 exact ⟨f.os,f.tape,f.output,f.size,fun b hb hL _ => f.block b hb hL,fun c hc => (liveB_cells h hc).2.2,h.Sold,h.Snew⟩
omit [Laid] in
theorem Ev.put {l:Nat} {L S:Nat→Prop} (o:Obj):Ev l L w (w.putObj l o) S S L :=
 ⟨rfl,rfl,rfl,by simp,fun _ _ _ hl => World.putObj_heap_other hl,fun _ h => .inl h,fun _ h => h,fun _ h => .inl h⟩

theorem round_back {Φ' : Plc} {S' SB J:Nat→Prop} {B:World} {st' : St} {a' : Act} {w' : World} {bs:List Nat} {l:Nat} {n:Nat} {o:Obj} (h:Sim m w0 S0 Jo D Φ S st a w) (hl:w.heap[l]? = some o) (hd:∀ x,o ≠ Obj.deferred x) (h0:w0.heap.size≤l)
  (ev:Ev l (liveB Φ st) w w' S S' (liveB Φ' st')) (h' : Sim m B SB J ⟨fun t => t ∉ bs,fun t => a.tmps.getD t undef,fun n _ => n = a.tmps.size,n,D.iob⟩ Φ' S' st' a' w'):Sim m w0 S0 Jo D Φ' S' (st'.mask bs) a w' := by
 refine ⟨h.defers.keep fun r x e => ?_,h.same,by show a.tmps.size = (maskT bs st'.ts).length; rw [maskT_len,← h'.size]; exact h'.same.2.symm,?_,?_,h'.fresh,h'.inj,h'.Slt,fun b hb => ev.old b (h.Sold b hb),?_,?_,h'.io,h'.glob⟩
 ·refine (ev.block r (Array.getElem?_eq_some_iff.1 e).1 (fun hL => ?_) (fun e' => ?_)).trans e
  ·obtain ⟨⟨arr,ty,e2⟩,_⟩ := liveB_cells h hL
   rw [e] at e2; cases e2
  ·subst e'; rw [hl] at e; injection e with e; exact hd _ e
 ·intro t v hv
  rcases maskT_get hv with rfl | ⟨h1,h2⟩
  ·exact .und _
  ·have e:a'.tmps.getD t undef = a.tmps.getD t undef := h'.same.1 t h1
   rw [← e]; exact h'.ts t v h2
 ·intro t b hb
  have hB := h'.hp t b hb
  unfold BRel at hB ⊢
  split at hB
  ·trivial
  ·rename_i hl'
   rcases hB with hB | ⟨c,sz,arr,ty,k1,k2,k3,k4,k5,k6,k7⟩
   ·exact .inl hB
   ·refine .inr ⟨c,sz,arr,ty,k1,k2,k3,k4,k5,k6,?_⟩
    rcases ev.live c ⟨t,b,sz,hb,hl',k1⟩ with q | q
    ·exact (liveB_cells h q).2.2
    ·exact .inr (Nat.le_trans h.frame.size q)
  ·exact hB
 ·intro b hb
  rcases ev.new b hb with hb | hb | hb
  ·exact h.Snew b hb
  ·exact .inr (.inl (Nat.le_trans h.frame.size hb))
  ·rcases (liveB_cells h hb).2.2 with hb | hb
   ·exact .inr (.inr hb)
   ·exact .inr (.inl hb)
 ·have f := h.frame
  refine ⟨ev.os.trans f.os,ev.tape.trans f.tape,ev.output.trans f.output,Nat.le_trans f.size ev.size,fun b hb hio => ?_⟩
  refine (ev.block b (Nat.lt_of_lt_of_le hb f.size) (fun hl => ?_) (by omega)).trans (f.block b hb hio)
  rcases (liveB_cells h hl).2.2 with q | q
  ·exact hio q
  ·omega
theorem round_keeps {S' S2 L' : Nat→Prop} {w' : World} {l:Nat} (h:Sim m w0 S0 Jo D Φ S st a w) (hl:¬ S l) (ev:Ev l (liveB Φ st) w w' S S' L') (h2:∀ b,S2 b→S b):Keeps S2 w w' :=
 ⟨ev.os,ev.tape,ev.output,ev.size,fun b hb => ev.block b (h.Slt b (h2 b hb)) (fun hL => (liveB_cells h hL).2.1 (h2 b hb)) (fun e => hl (e ▸ h2 b hb))⟩
end

def Snd (P:Program) (m l:Nat) (c:Code) (ac:ACode) (bs:List Nat):Prop :=
 ∀ (w0:World) (S0 Jo:Nat→Prop) (D:Bs) (Q:AEx→St→Prop) (Q' : Exit→Act→World→Prop) (st:St) (a:Act) (w:World),
  D.low≤w0.heap.size→(∀ k∈bs,¬ D.keep k)→SimE m w0 S0 Jo D st a w→AWp P m ac Q st→(∀ e st a w,Q e st→SimE m w0 S0 Jo D st a w→Q' e.to a w)→c.wpIn (Fw (some l)) 0 P Q' a w

def jumpOf:AEx→Option Code
 | .normal => none
 | .exit id => some (.exit id)
 | .ret => some .ret

omit [Laid] in
theorem inv_fn {Φ:Plc} {S:Nat→Prop} {w:World} {f:FuncId} {cap:List (List Pv)} {x:Value} (h:VRel Φ S w (.p (.fn f cap)) x):∃ f0 first caps,x = .func (.func f0) first caps∧PRel S w (.fn f cap) (.func (.func f0) first caps) := by
 cases h with
 | p _ _ h =>
  cases h with
  | fn _ _ caps hf b o cell hn hs hp h1 h2 => exact ⟨f,#[],caps,rfl,.fn f cap caps hf b o cell hn hs hp h1 h2⟩
  | bnd _ f0 cs arr hg hn h => exact ⟨f0,#[.agg arr],#[],rfl,.bnd _ f0 cs arr hg hn h⟩

omit [Laid] in
theorem zip_puts (ps:Array Nat) (args tmps:Array Value):(ps.zip args).foldl (fun tmps (x:Nat×Value) => tmps.setIfInBounds x.1 x.2) tmps = putsA (ps.toList.zip args.toList) tmps := by
 rw [← Array.foldl_toList,Array.toList_zip]; exact putsA_foldl _ _

theorem range_sound {P:Program} {m:Nat} {w0:World} {S0 Jo:Nat→Prop} {D:Bs} {g:Operand} {ps:Array Tmp} {assign body:Code} {bs:List Nat} {x y:ACode} (hx:∀ l,Snd P m l assign x bs) (hy:∀ l,Snd P m l body y bs) (hps:∀ p∈ps.toList,p∈bs)
  {Q:AEx→St→Prop} {Q' : Exit→Act→World→Prop} {st:St} {a:Act} {w:World} (h:SimE m w0 S0 Jo D st a w) (hlow0:D.low≤w0.heap.size) (hlen:∀ n ds ds',D.len n ds→D.len n ds') (hw:AWp P m (.rng (cG g) ps.toList bs x y) Q st)
  (hQ:∀ e st a w,Q e st→SimE m w0 S0 Jo D st a w→Q' e.to a w):(Code.rangeFunc g ps assign body).wpIn (Fw none) 0 P Q' a w := by
 obtain ⟨s0,hs0,f,cap,vs,hf,hg,hI,hrun⟩ := hw
 obtain ⟨Φ0,S,h⟩ := h
 obtain ⟨Φ,hsim⟩ := hs0 _ _ _ _ _ _ _ _ h
 have hlow:D.low≤w.heap.size := Nat.le_trans hlow0 hsim.frame.size
 have hval := rel_getG hsim g
 rw [hg] at hval
 obtain ⟨f0,first,caps,hev,hprel⟩ := inv_fn hval
 refine wpIn_rangeFunc ?_
 intro fn hfn
 obtain ⟨rec,hrec⟩ : ∃ rec:LoopState→Option Code→Loop,rec = fun st pe => { state := st,pending := pe,fn,tmps := a.tmps,params := ps,assign,body,defers := w.heap.size } := ⟨_,rfl⟩
 obtain ⟨l,hlw⟩ : ∃ l,l = w.heap.size + 1 := ⟨_,rfl⟩
 obtain ⟨W1,hW1⟩ : ∃ W1,(w.alloc (.deferred (some []))).alloc (.loop (rec .ready none)) = W1 := ⟨_,rfl⟩
 have hL1:W1.heap[l]? = some (.loop (rec .ready none)) := by
  rw [← hW1,hlw]; have := World.alloc_heap_new (w.alloc (.deferred (some []))) (.loop (rec .ready none)); rwa [World.size_alloc] at this
 have hK1:W1.heap[w.heap.size]? = some (.deferred (some [])) := by
  rw [← hW1]; exact (Below.heap_alloc _ _ _ (by simp)).trans (World.alloc_heap_new w _)
 obtain ⟨ac,hac⟩ : ∃ ac:Act,ac = { a with defers := { target := .collected w.heap.size,args := #[] } :: a.defers } := ⟨_,rfl⟩
 have hact:ac.tmps = a.tmps := by rw [hac]
 have hsz1:W1.heap.size = w.heap.size + 2 := by rw [← hW1]; simp
 have hold:∀ b,b < w.heap.size→W1.heap[b]? = w.heap[b]? := by
  intro b hb
  rw [← hW1]
  exact (Below.heap_alloc _ _ _ (by simp; omega)).trans (Below.heap_alloc _ _ _ hb)
 have hsim1:Sim m w0 S0 Jo D Φ S s0 a W1 := hsim.grow (by rw [← hW1]; rfl) (by rw [← hW1]; rfl) (by rw [← hW1]; rfl) (by omega) hold (fun _ e => e) (fun _ e => .inl e) (fun b hb => by have := hsim.Slt b hb; omega)
 have hnew:∀ d∈a.defers,d.target ≠ Target.collected w.heap.size := by
  have key:∀ ds:List Deferred,Marks D.low w ds→∀ d∈ds,d.target ≠ Target.collected w.heap.size := by
   intro ds
   induction ds with
   | nil => intro _ d hd; cases hd
   | cons d ds ih =>
    rintro ⟨⟨r,h1,_,h3,_⟩,h5⟩ d' hd'
    rcases List.mem_cons.1 hd' with rfl | hd'
    ·rw [h1]; intro e; injection e with e; subst e
     have := (Array.getElem?_eq_some_iff.1 h3).1; omega
    ·exact ih h5 d' hd'
  exact key _ hsim.defers
 have hsimc:Sim m w0 S0 Jo D Φ S s0 ac W1 := by
  subst hac
  exact ⟨⟨⟨w.heap.size,rfl,hlow,hK1,hnew⟩,hsim1.defers⟩,⟨hsim1.same.1,hlen _ _ _ hsim1.same.2⟩,hsim1.size,hsim1.ts,hsim1.hp,hsim1.fresh,hsim1.inj,hsim1.Slt,hsim1.Sold,hsim1.Snew,hsim1.frame,hsim1.io,hsim1.glob⟩
 refine ⟨l,[{ target := .collected w.heap.size,args := #[] }],W1,{ target := .fn (.func f0) caps,args := first ++ #[.func (.yield l) #[] #[]] },W1,f0,first ++ #[.func (.yield l) #[] #[]] ++ caps,W1,?_,?_,?_,?_,fun e => by simp [Fw,Fence.wide] at e,?_⟩
 ·rw [← hW1,hrec,hlw]; exact run_enterLoop_outer _ _ _ _ _
 ·simp only [resolve,hev]
  simp [go_sem]
 ·intro f' _; trivial
 ·simp [invoke,go_sem,callFunc_run0 (callI_is hf hprel)]
 have hl0:w0.heap.size≤l := by have := hsim.frame.size; omega
 have hSl:¬ S l := fun e => by have := hsim.Slt l e; omega
 have hloopc:∀ (r:Loop) arr ty fz,Obj.loop r ≠ Obj.cells arr ty fz := fun r arr ty fz e => by cases e
 have hloopd:∀ (r:Loop) z,Obj.loop r ≠ Obj.deferred z := fun r z e => by cases e
 refine (hI W1 S f0 first caps l (hprel.mono (fun _ e => e) (fun b hb => hold b (hsim.Slt b hb))) hsim1.Slt hsim1.glob
  (fun k S1 W => ∃ s Φc Sc,RngK (fun xs s K => xs.length = ps.toList.length∧AWp P m x (AEx.seq (AWp P m y (fun e s' => ∃ s1,Weak m (s'.mask bs) s1∧K e s1)) (fun _ _ => False)) (s.puts ps.toList xs)) Q (vs.drop k) s ∧
   Sim m w0 S0 Jo D Φc Sc s ac W∧(∀ b,S1 b→Sc b)∧W.heap[l]? = some (.loop (rec .ready none))∧¬ Sc l)
  (fun W => ∃ e s c Φc Sc,Q e s∧jumpOf e = some c∧Sim m w0 S0 Jo D Φc Sc s ac W∧W.heap[l]? = some (.loop (rec .done (some c)))∧¬ Sc l)
  ⟨s0,Φ,S,by simpa using hrun,hsimc,fun _ e => e,hL1,hSl⟩ ?_).mono ?_
 ·-- one round
  rintro k S1' W0 Wr S2 args xs ⟨s,Φc,Sc,hrk,hs,hsub,hl,hnl⟩ hfr h12 h21 h2lt hxs hsz hargs
  have hlt:l < W0.heap.size := (Array.getElem?_eq_some_iff.1 hl).1
  have hl' : Wr.heap[l]? = some (.loop (rec .ready none)) := (hfr.block l hlt (fun e => e)).trans hl
  have hs1:Sim m w0 S0 Jo D Φc (fun b => Sc b ∨ S2 b) s ac Wr := hs.grow hfr.os hfr.tape hfr.output hfr.size (fun b hb => hfr.block b hb (fun e => e)) (fun _ h => .inl h)
   (fun b hb => hb.elim .inl (fun hb => (h21 b hb).elim (fun h => .inl (hsub b h)) .inr)) (fun b hb => hb.elim (fun hb => Nat.lt_of_lt_of_le (hs.Slt b hb) hfr.size) (h2lt b))
  have hnl1:¬ (Sc l ∨ S2 l) := fun hb => hb.elim hnl (fun hb => (h21 l hb).elim (fun h => hnl (hsub l h)) (fun h => by omega))
  have hd:vs.drop k = xs :: vs.drop (k + 1) := by
   obtain ⟨hk,he⟩ := List.getElem?_eq_some_iff.1 hxs
   rw [List.drop_eq_getElem_cons hk,he]
  rw [hd] at hrk
  obtain ⟨hlen,hbody⟩ := hrk
  have hsz' : xs.length = args.toList.length := by simpa using hsz.symm
  have hr := round_sim hs1 hps (ps := ps.toList) (xs := xs) (vs := args.toList) hsz' (fun i v hv => by
   have := (hargs i v hv).mono (Φ' := Φc) (S' := fun b => Sc b ∨ S2 b) (w' := Wr) (fun _ _ _ e => by cases e) (fun _ h => .inr h) (fun _ _ => rfl)
   rw [getD_of_list] at this; exact this)
  have hyl := run_yield (P := P) (args := args) hl' (by rw [hrec]; show args.size = ps.size; rw [hsz,hlen]; simp)
  rw [hrec] at hyl
  dsimp only at hyl
  have htm:(fun (tmps:Array Value) (x:Tmp×Value) => match x with | (t,a) => tmps.setIfInBounds t a) = (fun (tmps:Array Value) (x:Nat×Value) => tmps.setIfInBounds x.1 x.2) := rfl
  rw [htm,zip_puts] at hyl
  rw [hact] at hr
  refine ⟨fn,_,assign,body,hyl,roundIn_of_wpIn hfn (hx l Wr _ (liveB Φc s) ⟨fun t => t ∉ bs,fun t => a.tmps.getD t undef,fun n _ => n = a.tmps.size,0,D.iob⟩ _ _ _ _ _ (Nat.zero_le _) (fun k hk hn => hn hk) ⟨_,_,hr⟩ hbody ?_)⟩
  rintro e s' a' w' hq ⟨Φ',S',h'⟩
  cases e with
  | exit id => exact hq.elim
  | ret => exact hq.elim
  | normal =>
   have ev1:Ev l (liveB Φc s) Wr w' (fun b => Sc b ∨ S2 b) S' (liveB Φ' s') := Ev.of_sim h'
   have hnlive:¬ liveB Φc s l := fun hL => by obtain ⟨⟨arr,ty,e⟩,_⟩ := liveB_cells hs1 hL; rw [hl'] at e; cases e
   have hl2:w'.heap[l]? = some (.loop (rec .ready none)) := (h'.frame.block l (Array.getElem?_eq_some_iff.1 hl').1 hnlive).trans hl'
   have hnl2:¬ S' l := fun hb => (ev1.new l hb).elim hnl1 (fun h => h.elim (fun h => by have := (Array.getElem?_eq_some_iff.1 hl').1; omega) hnlive)
   have hb2 := turn_sim (o' := .loop { rec .ready none with state := .busy }) h' hl2 (hloopc _) (hloopd _) hnl2
   have ev2:Ev l (liveB Φc s) Wr (w'.putObj l (.loop { rec .ready none with state := .busy })) (fun b => Sc b ∨ S2 b) S' (liveB Φ' s') := ev1.trans (Ev.put _)
   have hl3:(w'.putObj l (.loop { rec .ready none with state := .busy })).heap[l]? = some (.loop { rec .ready none with state := .busy }) := World.putObj_heap_same (Array.getElem?_eq_some_iff.1 hl2).1
   refine ⟨_,run_beginRound hl2 (by rw [hrec]),hy l _ _ _ ⟨fun t => t ∉ bs,fun t => a.tmps.getD t undef,fun n _ => n = a.tmps.size,0,D.iob⟩ _ _ _ _ _ (Nat.zero_le _) (fun k hk hn => hn hk) ⟨_,_,hb2⟩ hq ?_⟩
   rintro e s'' a'' w'' ⟨s1,hweak,hk⟩ ⟨Φ'',S'',h''⟩
   have ev3:Ev l (liveB Φ' s') _ w'' S' S'' (liveB Φ'' s'') := Ev.of_sim h''
   have hnlive3:¬ liveB Φ' s' l := fun hL => by obtain ⟨⟨arr,ty,e⟩,_⟩ := liveB_cells hb2 hL; rw [hl3] at e; cases e
   have hl4:w''.heap[l]? = some (.loop { rec .ready none with state := .busy }) := (h''.frame.block l (Array.getElem?_eq_some_iff.1 hl3).1 hnlive3).trans hl3
   have hnl4:¬ S'' l := fun hb => (ev3.new l hb).elim hnl2 (fun h => h.elim (fun h => by have := (Array.getElem?_eq_some_iff.1 hl3).1; omega) hnlive3)
   have fin:∀ jump:Option Code,(Instr.endRound l jump).run P w'' = .ok (.bool jump.isNone) (w''.putObj l (.loop (rec (if jump.isNone then .ready else .done) jump))) ∧
     (∃ Φ3,Sim m w0 S0 Jo D Φ3 S'' s1 ac (w''.putObj l (.loop (rec (if jump.isNone then .ready else .done) jump)))) ∧
     Keeps S2 Wr (w''.putObj l (.loop (rec (if jump.isNone then .ready else .done) jump))) ∧
     (w''.putObj l (.loop (rec (if jump.isNone then .ready else .done) jump))).heap[l]? = some (.loop (rec (if jump.isNone then .ready else .done) jump)) := by
    intro jump
    have hend := run_endRound (P := P) jump hl4
    have h4 := turn_sim (o' := .loop (rec (if jump.isNone then .ready else .done) jump)) h'' hl4 (hloopc _) (hloopd _) hnl4
    have ev4:Ev l (liveB Φc s) Wr (w''.putObj l (.loop (rec (if jump.isNone then .ready else .done) jump))) (fun b => Sc b ∨ S2 b) S'' (liveB Φ'' s'') := ev2.trans (ev3.trans (Ev.put _))
    rw [← hact] at h4
    have h5 := round_back hs1 hl' (hloopd _) hl0 ev4 h4
    have hend' : (Instr.endRound l jump).run P w'' = .ok (.bool jump.isNone) (w''.putObj l (.loop (rec (if jump.isNone then .ready else .done) jump))) := by
     rw [hrec] at hend; rw [hrec]; exact hend
    exact ⟨hend',hweak _ _ _ _ _ _ _ _ h5,round_keeps hs1 hnl1 ev4 (fun b hb => .inr hb),World.putObj_heap_same (Array.getElem?_eq_some_iff.1 hl4).1⟩
   have h2S:∀ b,S2 b→S'' b := fun b hb => (ev2.trans ev3).old b (.inr hb)
   cases e with
   | normal =>
    obtain ⟨f1,⟨Φ3,f2⟩,f3,f4⟩ := fin none
    exact ⟨_,_,f1,.inl ⟨rfl,⟨s1,Φ3,S'',hk,f2,h2S,f4,hnl4⟩,f3⟩⟩
   | exit id =>
    obtain ⟨f1,⟨Φ3,f2⟩,f3,f4⟩ := fin (some (.exit id))
    exact ⟨_,_,f1,.inr ⟨rfl,⟨.exit id,s1,.exit id,Φ3,S'',hk,rfl,f2,f4,hnl4⟩,f3⟩⟩
   | ret =>
    obtain ⟨f1,⟨Φ3,f2⟩,f3,f4⟩ := fin (some .ret)
    exact ⟨_,_,f1,.inr ⟨rfl,⟨.ret,s1,.ret,Φ3,S'',hk,rfl,f2,f4,hnl4⟩,f3⟩⟩
 ·-- behind the iterator
  rintro e W2 ⟨⟨v,rfl⟩,W0,hJ,hfr⟩
  have leave:∀ {Φc:Plc} {Sc:Nat→Prop} {s:St} {st1:LoopState} {pe:Option Code},Sim m w0 S0 Jo D Φc Sc s ac W0→W0.heap[l]? = some (.loop (rec st1 pe))→st1 ≠ .busy→¬ Sc l →
    ∃ w3,(Instr.endLoop l).run P W2 = .ok pe w3∧SimE m w0 S0 Jo D s ac w3 := by
   intro Φc Sc s st1 pe hs hl hb hn
   have hlt:l < W0.heap.size := (Array.getElem?_eq_some_iff.1 hl).1
   have hl' : W2.heap[l]? = some (.loop (rec st1 pe)) := (hfr.block l hlt (fun e => e)).trans hl
   have hs1:Sim m w0 S0 Jo D Φc Sc s ac W2 := hs.grow hfr.os hfr.tape hfr.output hfr.size (fun b hb => hfr.block b hb (fun e => e)) (fun _ h => h) (fun b hb => .inl hb) (fun b hb => Nat.lt_of_lt_of_le (hs.Slt b hb) hfr.size)
   have hend := run_endLoop (P := P) hl' (by rw [hrec]; exact hb)
   rw [hrec] at hend
   exact ⟨_,hend,Φc,Sc,hs1.other hl' (hloopc _) (hloopd _) hn hl0⟩
  rcases hJ with ⟨S',s,Φc,Sc,hrk,hs,_,hl,hn⟩ | ⟨e,s,c,Φc,Sc,hq,hj,hs,hl,hn⟩
  ·rw [List.drop_length] at hrk
   obtain ⟨w3,h1,h2⟩ := leave hs hl (by simp) hn
   refine ⟨none,w3,h1,?_⟩
   have := hQ .normal s ac w3 hrk h2
   rw [hac] at this; exact this
  ·obtain ⟨w3,h1,h2⟩ := leave hs hl (by simp) hn
   refine ⟨some c,w3,h1,?_⟩
   have := hQ e s ac w3 hq h2
   rw [hac] at this
   cases e with
   | normal => cases hj
   | exit id => cases hj; exact wpIn_exit this
   | ret => cases hj; exact wpIn_ret this

omit [Laid] in
theorem marks_fr {n0:Nat} {W W' : World} {C:Nat→Prop} (hf:∀ b,b < W.heap.size→¬ C b→W'.heap[b]? = W.heap[b]?):∀ ds:List Deferred,Marks n0 W ds→(∀ d∈ds,∀ r,d.target = .collected r→¬ C r)→Marks n0 W' ds
 | [],_,_ => trivial
 | d :: ds,⟨⟨r,h1,h2,h3,h4⟩,h5⟩,hC => ⟨⟨r,h1,h2,(hf r (Array.getElem?_eq_some_iff.1 h3).1 (hC d List.mem_cons_self r h1)).trans h3,h4⟩,marks_fr hf ds h5 fun d' hd' => hC d' (List.mem_cons_of_mem _ hd')⟩
omit [Laid] in
theorem marks_at {n0:Nat} {W:World}:∀ {ds:List Deferred},Marks n0 W ds→∀ d∈ds,∀ r,d.target = .collected r→W.heap[r]? = some (.deferred (some []))
 | [],_,d,hd,_,_ => by cases hd
 | d0 :: ds,⟨⟨r0,h1,_,h3,_⟩,h5⟩,d,hd,r,hr => by
  rcases List.mem_cons.1 hd with rfl | hd
  ·rw [h1] at hr; injection hr with hr; subst hr; exact h3
  ·exact marks_at h5 d hd r hr
section
variable {P:Program} {m:Nat} {w0:World} {S0 Jo:Nat→Prop} {D:Bs} {Φ:Plc} {S:Nat→Prop} {st:St} {a:Act} {w:World}

theorem Sim.growC (h:Sim m w0 S0 Jo D Φ S st a w) {C S' : Nat→Prop} {w' : World} (hf:Fr C w w') (hCS:∀ b,C b→¬ S b) (hCL:∀ b,C b→¬ liveB Φ st b) (hC0:∀ b,C b→w0.heap.size≤b)
  (hM:Marks D.low w' a.defers) (hS:∀ b,S b→S' b) (hS2:∀ b,S' b→S b ∨ w.heap.size≤b) (hS3:∀ b,S' b→b < w'.heap.size) :
  Sim m w0 S0 Jo D Φ S' st a w' := by
 have hw:∀ b,S b→w'.heap[b]? = w.heap[b]? := fun b h' => hf.block b (h.Slt b h') (fun e => hCS b e h')
 have hlt:∀ c o,w.heap[c]? = some o→c < w.heap.size := fun c o e => (Array.getElem?_eq_some_iff.1 e).1
 refine ⟨hM,h.same,h.size,fun t v hv => (h.ts t v hv).mono (fun _ _ _ e => e) hS hw,?_,h.fresh,h.inj,hS3,fun b hb' => hS b (h.Sold b hb'),?_,?_,h.io,h.glob.mono hS hw⟩
 ·intro t b hb'
  have hB := h.hp t b hb'
  unfold BRel at hB ⊢
  split at hB
  ·trivial
  ·rename_i hst
   rcases hB with hB | ⟨c,sz,arr,ty,h1,h2,h3,h4,h5,h6,h7⟩
   ·exact .inl hB
   ·have hcl:liveB Φ st c := ⟨t,b,sz,hb',hst,h1⟩
    refine .inr ⟨c,sz,arr,ty,h1,(hf.block c (hlt _ _ h2) (fun e => hCL c e hcl)).trans h2,h3,h4,fun i x hx => (h5 i x hx).mono (fun _ _ _ e => e) hS hw,?_,h7⟩
    intro hc
    rcases hS2 c hc with hc | hc
    ·exact h6 hc
    ·have := hlt _ _ h2; omega
  ·rcases hB with hB | ⟨c,sz,h1,h2,arr,ty,fz,h3,h4,h5⟩
   ·exact .inl hB
   ·exact .inr ⟨c,sz,h1,hS c h2,arr,ty,fz,(hw c h2).trans h3,h4,fun i x hx => (h5 i x hx).mono (fun _ _ _ e => e) hS hw⟩
 ·intro b hb'
  rcases hS2 b hb' with h' | h'
  ·exact h.Snew b h'
  ·exact .inr (.inl (Nat.le_trans h.frame.size h'))
 ·exact ⟨hf.os.trans h.frame.os,hf.tape.trans h.frame.tape,hf.output.trans h.frame.output,Nat.le_trans h.frame.size hf.size,fun b hb' hio => (hf.block b (Nat.lt_of_lt_of_le hb' h.frame.size) (fun e => by have := hC0 b e; omega)).trans (h.frame.block b hb' hio)⟩

theorem weak_live {st' : St} (hk:Weak m st st') (h:Sim m w0 S0 Jo D Φ S st a w):∃ Φ',Sim m w0 S0 Jo D Φ' S st' a w∧∀ c,liveB Φ' st' c→liveB Φ st c := by
 have h1:Sim m w S (liveB Φ st) D Φ S st a w := by
  refine ⟨h.defers,h.same,h.size,h.ts,?_,h.fresh,h.inj,h.Slt,fun _ e => e,fun _ e => .inl e,Fr.refl _ _,h.io,h.glob⟩
  intro t b hb
  have hB := h.hp t b hb
  unfold BRel at hB ⊢
  split at hB
  ·trivial
  ·rename_i hst
   rcases hB with hB | ⟨c,sz,arr,ty,k1,k2,k3,k4,k5,k6,k7⟩
   ·exact .inl hB
   ·exact .inr ⟨c,sz,arr,ty,k1,k2,k3,k4,k5,k6,.inl ⟨t,b,sz,hb,hst,k1⟩⟩
  ·exact hB
 obtain ⟨Φ',h2⟩ := hk _ _ _ _ _ _ _ _ h1
 have hlive:∀ c,liveB Φ' st' c→liveB Φ st c := fun c hc => by
  obtain ⟨⟨arr,ty,e⟩,_,hJ | hJ⟩ := liveB_cells h2 hc
  ·exact hJ
  ·have := (Array.getElem?_eq_some_iff.1 e).1; omega
 refine ⟨Φ',⟨h2.defers,h2.same,h2.size,h2.ts,?_,h2.fresh,h2.inj,h2.Slt,h.Sold,h.Snew,h.frame,h2.io,h2.glob⟩,hlive⟩
 intro t b hb
 have hB := h2.hp t b hb
 unfold BRel at hB ⊢
 split at hB
 ·trivial
 ·rename_i hst
  rcases hB with hB | ⟨c,sz,arr,ty,k1,k2,k3,k4,k5,k6,k7⟩
  ·exact .inl hB
  ·exact .inr ⟨c,sz,arr,ty,k1,k2,k3,k4,k5,k6,(liveB_cells h (hlive c ⟨t,b,sz,hb,hst,k1⟩)).2.2⟩
 ·exact hB
end
theorem rangec_sound {P:Program} {m:Nat} {w0:World} {S0 Jo:Nat→Prop} {D:Bs} {g:Operand} {ps:Array Tmp} {assign body:Code} {bs:List Nat} {x y:ACode} (hx:∀ l,Snd P m l assign x bs) (hy:∀ l,Snd P m l body y bs) (hps:∀ p∈ps.toList,p∈bs)
  {Q:AEx→St→Prop} {Q' : Exit→Act→World→Prop} {s0:St} {a:Act} {w:World} {Φ:Plc} {S:Nat→Prop} (hsim:Sim m w0 S0 Jo D Φ S s0 a w) (hlow0:D.low≤w0.heap.size) (hlen:∀ n ds ds',D.len n ds→D.len n ds')
  {f0:FuncId} {first caps:Array Value} {C:Nat→Prop} {vs:List (List V)} (hev:a.eval g = .func (.func f0) first caps) (hf0:callable0 P f0 = true) (hC0:∀ b,C b→w0.heap.size≤b∧b < w.heap.size) (hCS:∀ b,C b→¬ S b) (hCL:∀ b,C b→¬ liveB Φ s0 b)
  (hCM:∀ b,C b→∃ arr ty fz,w.heap[b]? = some (.cells arr ty fz)) (hI:IterR P f0 first caps C vs w S)
  (hrun:RngK (fun xs s K => xs.length = ps.toList.length∧AWp P m x (AEx.seq (AWp P m y (fun e s' => ∃ s1,Weak m (s'.mask bs) s1∧K e s1)) (fun _ _ => False)) (s.puts ps.toList xs)) Q vs s0)
  (hQ:∀ e st a w,Q e st→SimE m w0 S0 Jo D st a w→Q' e.to a w):(Code.rangeFunc g ps assign body).wpIn (Fw none) 0 P Q' a w := by
 have hlow:D.low≤w.heap.size := Nat.le_trans hlow0 hsim.frame.size
 refine wpIn_rangeFunc ?_
 intro fn hfn
 obtain ⟨rec,hrec⟩ : ∃ rec:LoopState→Option Code→Loop,rec = fun st pe => { state := st,pending := pe,fn,tmps := a.tmps,params := ps,assign,body,defers := w.heap.size } := ⟨_,rfl⟩
 obtain ⟨l,hlw⟩ : ∃ l,l = w.heap.size + 1 := ⟨_,rfl⟩
 obtain ⟨W1,hW1⟩ : ∃ W1,(w.alloc (.deferred (some []))).alloc (.loop (rec .ready none)) = W1 := ⟨_,rfl⟩
 have hL1:W1.heap[l]? = some (.loop (rec .ready none)) := by
  rw [← hW1,hlw]; have := World.alloc_heap_new (w.alloc (.deferred (some []))) (.loop (rec .ready none)); rwa [World.size_alloc] at this
 have hK1:W1.heap[w.heap.size]? = some (.deferred (some [])) := by
  rw [← hW1]; exact (Below.heap_alloc _ _ _ (by simp)).trans (World.alloc_heap_new w _)
 obtain ⟨ac,hac⟩ : ∃ ac:Act,ac = { a with defers := { target := .collected w.heap.size,args := #[] } :: a.defers } := ⟨_,rfl⟩
 have hact:ac.tmps = a.tmps := by rw [hac]
 have hsz1:W1.heap.size = w.heap.size + 2 := by rw [← hW1]; simp
 have hold:∀ b,b < w.heap.size→W1.heap[b]? = w.heap[b]? := by
  intro b hb
  rw [← hW1]
  exact (Below.heap_alloc _ _ _ (by simp; omega)).trans (Below.heap_alloc _ _ _ hb)
 have hsim1:Sim m w0 S0 Jo D Φ S s0 a W1 := hsim.grow (by rw [← hW1]; rfl) (by rw [← hW1]; rfl) (by rw [← hW1]; rfl) (by omega) hold (fun _ e => e) (fun _ e => .inl e) (fun b hb => by have := hsim.Slt b hb; omega)
 have hnew:∀ d∈a.defers,d.target ≠ Target.collected w.heap.size := by
  have key:∀ ds:List Deferred,Marks D.low w ds→∀ d∈ds,d.target ≠ Target.collected w.heap.size := by
   intro ds
   induction ds with
   | nil => intro _ d hd; cases hd
   | cons d ds ih =>
    rintro ⟨⟨r,h1,_,h3,_⟩,h5⟩ d' hd'
    rcases List.mem_cons.1 hd' with rfl | hd'
    ·rw [h1]; intro e; injection e with e; subst e
     have := (Array.getElem?_eq_some_iff.1 h3).1; omega
    ·exact ih h5 d' hd'
  exact key _ hsim.defers
 have hsimc:Sim m w0 S0 Jo D Φ S s0 ac W1 := by
  subst hac
  exact ⟨⟨⟨w.heap.size,rfl,hlow,hK1,hnew⟩,hsim1.defers⟩,⟨hsim1.same.1,hlen _ _ _ hsim1.same.2⟩,hsim1.size,hsim1.ts,hsim1.hp,hsim1.fresh,hsim1.inj,hsim1.Slt,hsim1.Sold,hsim1.Snew,hsim1.frame,hsim1.io,hsim1.glob⟩
 refine ⟨l,[{ target := .collected w.heap.size,args := #[] }],W1,{ target := .fn (.func f0) caps,args := first ++ #[.func (.yield l) #[] #[]] },W1,f0,first ++ #[.func (.yield l) #[] #[]] ++ caps,W1,?_,?_,?_,?_,fun e => by simp [Fw,Fence.wide] at e,?_⟩
 ·rw [← hW1,hrec,hlw]; exact run_enterLoop_outer _ _ _ _ _
 ·simp only [resolve,hev]
  simp [go_sem]
 ·intro f' _; trivial
 ·simp [invoke,go_sem,callFunc_run0 hf0]
 have hl0:w0.heap.size≤l := by have := hsim.frame.size; omega
 have hSl:¬ S l := fun e => by have := hsim.Slt l e; omega
 have hlC:¬ C l := fun e => by have := hC0 l e; omega
 have hCD:∀ d∈ac.defers,∀ r,d.target = .collected r→¬ C r := by
  intro d hd r hr hC
  rw [hac] at hd
  rcases List.mem_cons.1 hd with rfl | hd
  ·injection hr with hr; have := hC0 r hC; omega
  ·obtain ⟨arr,ty,fz,e⟩ := hCM r hC
   have := marks_at hsim.defers d hd r hr
   rw [e] at this; cases this
 have hloopc:∀ (r:Loop) arr ty fz,Obj.loop r ≠ Obj.cells arr ty fz := fun r arr ty fz e => by cases e
 have hloopd:∀ (r:Loop) z,Obj.loop r ≠ Obj.deferred z := fun r z e => by cases e
 refine (hI l W1
  (fun k S1 W => ∃ s Φc Sc,RngK (fun xs s K => xs.length = ps.toList.length∧AWp P m x (AEx.seq (AWp P m y (fun e s' => ∃ s1,Weak m (s'.mask bs) s1∧K e s1)) (fun _ _ => False)) (s.puts ps.toList xs)) Q (vs.drop k) s ∧
   Sim m w0 S0 Jo D Φc Sc s ac W∧(∀ b,S1 b→Sc b)∧W.heap[l]? = some (.loop (rec .ready none))∧¬ Sc l∧∀ b,C b→¬ Sc b∧¬ liveB Φc s b∧b < W.heap.size)
  (fun W => ∃ e s c Φc Sc,Q e s∧jumpOf e = some c∧Sim m w0 S0 Jo D Φc Sc s ac W∧W.heap[l]? = some (.loop (rec .done (some c)))∧¬ Sc l∧∀ b,C b→¬ Sc b∧¬ liveB Φc s b∧b < W.heap.size)
  (fun b hb => hold b (hC0 b hb).2) ⟨s0,Φ,S,by simpa using hrun,hsimc,fun _ e => e,hL1,hSl,fun b hb => ⟨hCS b hb,hCL b hb,by have := hC0 b hb; omega⟩⟩ hsim1.Slt ?_).mono ?_
 ·-- one round
  rintro k S1' W0 Wr S2 args xs ⟨s,Φc,Sc,hrk,hs,hsub,hl,hnl,hCc⟩ hfr h12 h21 h2lt hxs hsz hargs
  have hlt:l < W0.heap.size := (Array.getElem?_eq_some_iff.1 hl).1
  have hl' : Wr.heap[l]? = some (.loop (rec .ready none)) := (hfr.block l hlt hlC).trans hl
  have hs1:Sim m w0 S0 Jo D Φc (fun b => Sc b ∨ S2 b) s ac Wr := hs.growC hfr (fun b hb => (hCc b hb).1) (fun b hb => (hCc b hb).2.1) (fun b hb => (hC0 b hb).1) (marks_fr hfr.block _ hs.defers hCD) (fun _ h => .inl h)
   (fun b hb => hb.elim .inl (fun hb => (h21 b hb).elim (fun h => .inl (hsub b h)) .inr)) (fun b hb => hb.elim (fun hb => Nat.lt_of_lt_of_le (hs.Slt b hb) hfr.size) (h2lt b))
  have hnl1:¬ (Sc l ∨ S2 l) := fun hb => hb.elim hnl (fun hb => (h21 l hb).elim (fun h => hnl (hsub l h)) (fun h => by omega))
  have hC1:∀ b,C b→¬ (Sc b ∨ S2 b) := fun b hb hh => hh.elim (hCc b hb).1 (fun hh => (h21 b hh).elim (fun h => (hCc b hb).1 (hsub b h)) (fun h => by have := (hCc b hb).2.2; omega))
  have hCr:∀ b,C b→b < Wr.heap.size := fun b hb => Nat.lt_of_lt_of_le (hCc b hb).2.2 hfr.size
  have hd:vs.drop k = xs :: vs.drop (k + 1) := by
   obtain ⟨hk,he⟩ := List.getElem?_eq_some_iff.1 hxs
   rw [List.drop_eq_getElem_cons hk,he]
  rw [hd] at hrk
  obtain ⟨hlen,hbody⟩ := hrk
  have hsz' : xs.length = args.toList.length := by simpa using hsz.symm
  have hr := round_sim hs1 hps (ps := ps.toList) (xs := xs) (vs := args.toList) hsz' (fun i v hv => by
   have := (hargs i v hv).mono (Φ' := Φc) (S' := fun b => Sc b ∨ S2 b) (w' := Wr) (fun _ _ _ e => by cases e) (fun _ h => .inr h) (fun _ _ => rfl)
   rw [getD_of_list] at this; exact this)
  have hyl := run_yield (P := P) (args := args) hl' (by rw [hrec]; show args.size = ps.size; rw [hsz,hlen]; simp)
  rw [hrec] at hyl
  dsimp only at hyl
  have htm:(fun (tmps:Array Value) (x:Tmp×Value) => match x with | (t,a) => tmps.setIfInBounds t a) = (fun (tmps:Array Value) (x:Nat×Value) => tmps.setIfInBounds x.1 x.2) := rfl
  rw [htm,zip_puts] at hyl
  rw [hact] at hr
  refine ⟨fn,_,assign,body,hyl,roundIn_of_wpIn hfn (hx l Wr _ (liveB Φc s) ⟨fun t => t ∉ bs,fun t => a.tmps.getD t undef,fun n _ => n = a.tmps.size,0,D.iob⟩ _ _ _ _ _ (Nat.zero_le _) (fun k hk hn => hn hk) ⟨_,_,hr⟩ hbody ?_)⟩
  rintro e s' a' w' hq ⟨Φ',S',h'⟩
  cases e with
  | exit id => exact hq.elim
  | ret => exact hq.elim
  | normal =>
   have ev1:Ev l (liveB Φc s) Wr w' (fun b => Sc b ∨ S2 b) S' (liveB Φ' s') := Ev.of_sim h'
   have hnlive:¬ liveB Φc s l := fun hL => by obtain ⟨⟨arr,ty,e⟩,_⟩ := liveB_cells hs1 hL; rw [hl'] at e; cases e
   have hl2:w'.heap[l]? = some (.loop (rec .ready none)) := (h'.frame.block l (Array.getElem?_eq_some_iff.1 hl').1 hnlive).trans hl'
   have hnl2:¬ S' l := fun hb => (ev1.new l hb).elim hnl1 (fun h => h.elim (fun h => by have := (Array.getElem?_eq_some_iff.1 hl').1; omega) hnlive)
   have hb2 := turn_sim (o' := .loop { rec .ready none with state := .busy }) h' hl2 (hloopc _) (hloopd _) hnl2
   have ev2:Ev l (liveB Φc s) Wr (w'.putObj l (.loop { rec .ready none with state := .busy })) (fun b => Sc b ∨ S2 b) S' (liveB Φ' s') := ev1.trans (Ev.put _)
   have hl3:(w'.putObj l (.loop { rec .ready none with state := .busy })).heap[l]? = some (.loop { rec .ready none with state := .busy }) := World.putObj_heap_same (Array.getElem?_eq_some_iff.1 hl2).1
   refine ⟨_,run_beginRound hl2 (by rw [hrec]),hy l _ _ _ ⟨fun t => t ∉ bs,fun t => a.tmps.getD t undef,fun n _ => n = a.tmps.size,0,D.iob⟩ _ _ _ _ _ (Nat.zero_le _) (fun k hk hn => hn hk) ⟨_,_,hb2⟩ hq ?_⟩
   rintro e s'' a'' w'' ⟨s1,hweak,hk⟩ ⟨Φ'',S'',h''⟩
   have ev3:Ev l (liveB Φ' s') _ w'' S' S'' (liveB Φ'' s'') := Ev.of_sim h''
   have hnlive3:¬ liveB Φ' s' l := fun hL => by obtain ⟨⟨arr,ty,e⟩,_⟩ := liveB_cells hb2 hL; rw [hl3] at e; cases e
   have hl4:w''.heap[l]? = some (.loop { rec .ready none with state := .busy }) := (h''.frame.block l (Array.getElem?_eq_some_iff.1 hl3).1 hnlive3).trans hl3
   have hnl4:¬ S'' l := fun hb => (ev3.new l hb).elim hnl2 (fun h => h.elim (fun h => by have := (Array.getElem?_eq_some_iff.1 hl3).1; omega) hnlive3)
   have fin:∀ jump:Option Code,(Instr.endRound l jump).run P w'' = .ok (.bool jump.isNone) (w''.putObj l (.loop (rec (if jump.isNone then .ready else .done) jump))) ∧
     (∃ Φ3,Sim m w0 S0 Jo D Φ3 S'' s1 ac (w''.putObj l (.loop (rec (if jump.isNone then .ready else .done) jump)))∧∀ b,C b→¬ S'' b∧¬ liveB Φ3 s1 b∧b < (w''.putObj l (.loop (rec (if jump.isNone then .ready else .done) jump))).heap.size) ∧
     Keeps S2 Wr (w''.putObj l (.loop (rec (if jump.isNone then .ready else .done) jump))) ∧
     (w''.putObj l (.loop (rec (if jump.isNone then .ready else .done) jump))).heap[l]? = some (.loop (rec (if jump.isNone then .ready else .done) jump))∧(∀ b,C b→(w''.putObj l (.loop (rec (if jump.isNone then .ready else .done) jump))).heap[b]? = Wr.heap[b]?) := by
    intro jump
    have hend := run_endRound (P := P) jump hl4
    have h4 := turn_sim (o' := .loop (rec (if jump.isNone then .ready else .done) jump)) h'' hl4 (hloopc _) (hloopd _) hnl4
    have ev4:Ev l (liveB Φc s) Wr (w''.putObj l (.loop (rec (if jump.isNone then .ready else .done) jump))) (fun b => Sc b ∨ S2 b) S'' (liveB Φ'' s'') := ev2.trans (ev3.trans (Ev.put _))
    rw [← hact] at h4
    have h5 := round_back hs1 hl' (hloopd _) hl0 ev4 h4
    have hend' : (Instr.endRound l jump).run P w'' = .ok (.bool jump.isNone) (w''.putObj l (.loop (rec (if jump.isNone then .ready else .done) jump))) := by
     rw [hrec] at hend; rw [hrec]; exact hend
    have hCn:∀ b,C b→¬ liveB Φc s b := fun b hb => (hCc b hb).2.1
    obtain ⟨Φ3,g1,g2⟩ := weak_live hweak h5
    refine ⟨hend',⟨Φ3,g1,fun b hb => ⟨fun hh => ?_,fun hh => ?_,Nat.lt_of_lt_of_le (hCr b hb) ev4.size⟩⟩,round_keeps hs1 hnl1 ev4 (fun b hb => .inr hb),World.putObj_heap_same (Array.getElem?_eq_some_iff.1 hl4).1,fun b hb => ev4.block b (hCr b hb) (hCn b hb) (fun e => hlC (e ▸ hb))⟩
    ·rcases ev4.new b hh with h | h | h
     ·exact hC1 b hb h
     ·have := hCr b hb; omega
     ·exact hCn b hb h
    ·rcases ev4.live b (g2 b hh) with h | h
     ·exact hCn b hb h
     ·have := hCr b hb; omega
   have h2S:∀ b,S2 b→S'' b := fun b hb => (ev2.trans ev3).old b (.inr hb)
   cases e with
   | normal =>
    obtain ⟨f1,⟨Φ3,f2,f5⟩,f3,f4,f6⟩ := fin none
    exact ⟨_,_,f1,.inl ⟨rfl,⟨s1,Φ3,S'',hk,f2,h2S,f4,hnl4,f5⟩,f3,f6⟩⟩
   | exit id =>
    obtain ⟨f1,⟨Φ3,f2,f5⟩,f3,f4,f6⟩ := fin (some (.exit id))
    exact ⟨_,_,f1,.inr ⟨rfl,⟨.exit id,s1,.exit id,Φ3,S'',hk,rfl,f2,f4,hnl4,f5⟩,f3⟩⟩
   | ret =>
    obtain ⟨f1,⟨Φ3,f2,f5⟩,f3,f4,f6⟩ := fin (some .ret)
    exact ⟨_,_,f1,.inr ⟨rfl,⟨.ret,s1,.ret,Φ3,S'',hk,rfl,f2,f4,hnl4,f5⟩,f3⟩⟩
 ·-- behind the iterator
  rintro e W2 ⟨⟨v,rfl⟩,W0,hJ,hfr⟩
  have leave:∀ {Φc:Plc} {Sc:Nat→Prop} {s:St} {st1:LoopState} {pe:Option Code},Sim m w0 S0 Jo D Φc Sc s ac W0→W0.heap[l]? = some (.loop (rec st1 pe))→st1 ≠ .busy→¬ Sc l→(∀ b,C b→¬ Sc b∧¬ liveB Φc s b∧b < W0.heap.size) →
    ∃ w3,(Instr.endLoop l).run P W2 = .ok pe w3∧SimE m w0 S0 Jo D s ac w3 := by
   intro Φc Sc s st1 pe hs hl hb hn hCc
   have hlt:l < W0.heap.size := (Array.getElem?_eq_some_iff.1 hl).1
   have hl' : W2.heap[l]? = some (.loop (rec st1 pe)) := (hfr.block l hlt hlC).trans hl
   have hs1:Sim m w0 S0 Jo D Φc Sc s ac W2 := hs.growC hfr (fun b hb => (hCc b hb).1) (fun b hb => (hCc b hb).2.1) (fun b hb => (hC0 b hb).1) (marks_fr hfr.block _ hs.defers hCD) (fun _ h => h) (fun b hb => .inl hb) (fun b hb => Nat.lt_of_lt_of_le (hs.Slt b hb) hfr.size)
   have hend := run_endLoop (P := P) hl' (by rw [hrec]; exact hb)
   rw [hrec] at hend
   exact ⟨_,hend,Φc,Sc,hs1.other hl' (hloopc _) (hloopd _) hn hl0⟩
  rcases hJ with ⟨S',s,Φc,Sc,hrk,hs,_,hl,hn,hCc⟩ | ⟨e,s,c,Φc,Sc,hq,hj,hs,hl,hn,hCc⟩
  ·rw [List.drop_length] at hrk
   obtain ⟨w3,h1,h2⟩ := leave hs hl (by simp) hn hCc
   refine ⟨none,w3,h1,?_⟩
   have := hQ .normal s ac w3 hrk h2
   rw [hac] at this; exact this
  ·obtain ⟨w3,h1,h2⟩ := leave hs hl (by simp) hn hCc
   refine ⟨some c,w3,h1,?_⟩
   have := hQ e s ac w3 hq h2
   rw [hac] at this
   cases e with
   | normal => cases hj
   | exit id => cases hj; exact wpIn_exit this
   | ret => cases hj; exact wpIn_ret this
section
variable {P:Program} {m:Nat} {w0:World} {S0 Jo:Nat→Prop} {D:Bs} {Φ:Plc} {S:Nat→Prop} {st:St} {a:Act} {w:World}
theorem seqcall_sound (h:Sim m w0 S0 Jo D Φ S st a w) {o:Oper} {c:Call} {f:FuncId} {t:Nat} (hop:o.op = .call c) (hcal:c.callee = .value (.func f)) (hcl:callable P f = true) (hdst:o.dst = some t) (hd:¬ D.keep t)
  {xs:List V} {vs:List (List V)} (hxs:optAll (pur st.hp) ((c.args.toList.map cO).map st.get) = some xs) (hsl:((c.args.toList.map cO).map st.get).flatMap slots = []) (hI:IterC P f xs vs) {next:Act→World→Prop} {Q:Exit→Act→World→Prop}
  (hK:∀ (w1:World) (f0:FuncId) (first caps:Array Value) (C:Nat→Prop),Fr (fun _ => False) w w1→Sim m w0 S0 Jo D Φ S (St.put st (some t) .und) (a.put (some t) (.func (.func f0) first caps)) w1→callable0 P f0 = true →
   (∀ b,C b→w.heap.size≤b∧∃ arr ty fz,w1.heap[b]? = some (.cells arr ty fz))→IterR P f0 first caps C vs w1 S→next (a.put (some t) (.func (.func f0) first caps)) w1):o.wpIn (Fw none) 0 P a w next Q := by
 have hex:execOp a.eval o = (do let d ← resolve a.eval c o.type; invoke d.target d.args) := by unfold execOp; rw [hop]
 have hrun:(execOp a.eval o).run P w = .ok (.enter f (c.args.map a.eval)) w := by
  rw [hex]
  simp [resolve,hcal,Deferred.ofValue,Act.eval,invoke,callFunc_run hcl]
 obtain ⟨hn,hv⟩ := args_rel h c.args
 obtain ⟨k1,k2⟩ := optAll_get _ xs hxs
 refine ⟨fun _ _ => trivial,?_⟩
 rw [Oper.semAt_eq _ _ _ (by intro c' e; rw [hop] at e; cases e),hrun,Oper.uponIn_enter]
 refine ⟨fun e => by simp [Fw,Fence.wide] at e,?_⟩
 refine CallsIn.mono (callsIn_fw (hI w S (c.args.map a.eval) (by rw [k1,hn]) (fun i v hi => ?_) h.Slt h.glob)) ?_
 ·obtain ⟨u,hu,hpu⟩ := k2 i v hi
  refine pur_rel h (fun _ e => e) (hv i u hu) hpu (fun t' ht => ?_)
  have:t'∈((c.args.toList.map cO).map st.get).flatMap slots := List.mem_flatMap.2 ⟨u,List.mem_of_getElem? hu,ht⟩
  rw [hsl] at this; cases this
 ·rintro e w1 ⟨hf,f0,first,caps,C,rfl,g1,g2,g3⟩
  rw [hdst]
  refine hK w1 f0 first caps C hf ((h.grow hf.os hf.tape hf.output hf.size (fun b hb => hf.block b hb (fun e => e)) (fun _ e => e) (fun _ e => .inl e) (fun b hb => Nat.lt_of_lt_of_le (h.Slt b hb) hf.size)).put (fun k hk => by cases hk; exact hd) (.und _)) g1 g2 g3
theorem run_sound_app {ro:Option Nat} {sites:List Nat} {ops:Array Oper} {Q:Exit→Act→World→Prop} {r:List Oper} {K:St→Prop} (hK:∀ st a w,K st→SimE m w0 S0 Jo D st a w→wpListIn (Fw ro) 0 P ops Q r a w) :
  ∀ (l:List Oper) (il:List AIns) (st:St) (a:Act) (w:World),(∀ o∈l,∀ k,o.dst = some k→¬ D.keep k)→optAll (cIns P sites ops) l = some il→SimE m w0 S0 Jo D st a w→ARun P m il st K→wpListIn (Fw ro) 0 P ops Q (l ++ r) a w
 | [],il,st,a,w,_,hc,h,hr => by
  simp only [optAll,sJ] at hc; subst hc
  rw [List.nil_append]
  exact hK st a w hr h
 | o :: l,il,st,a,w,hD,hc,h,hr => by
  simp only [optAll] at hc
  split at hc
  ·rename_i i is hi his
   simp only [sJ] at hc; subst hc
   have next:∀ st a w,ARun P m is st K→SimE m w0 S0 Jo D st a w→wpListIn (Fw ro) 0 P ops Q (l ++ r) a w := fun st a w h1 h2 => run_sound_app hK l is st a w (fun o ho => hD o (List.mem_cons_of_mem _ ho)) his h2 h1
   have hi' := hi
   unfold cIns at hi'
   split at hi'
   ·rename_i ai _
    simp only [sJ] at hi'
    have hguard:i.guard = o.guard.map fun g => ((ops[g.1]?).bind (·.dst),g.2) := by rw [← hi']
    have hdst:i.dst = o.dst := by rw [← hi']
    simp only [ARun] at hr
    simp only [List.cons_append,wpListIn]
    cases hg:o.guard with
    | none =>
     rw [hg] at hguard
     simp only [Option.map_none] at hguard
     rw [hguard] at hr
     rw [if_pos (by simp [Region.wanted,hg])]
     exact step_sound h hi (hD o (List.mem_cons_self)) hr next Q
    | some g =>
     obtain ⟨gi,want⟩ := g
     rw [hg] at hguard
     simp only [Option.map_some] at hguard
     rw [hguard] at hr
     cases hd:(ops[gi]?).bind (·.dst) with
     | none => rw [hd] at hr; exact hr.elim
     | some d =>
      rw [hd] at hr
      simp only at hr
      split at hr
      ·rename_i b hb
       have hval:a.tmps[d]? = some (.bool b) := by
        obtain ⟨Φ,S,hsim⟩ := h
        simp only [St.get] at hb
        cases ht:st.ts[d]? with
        | none => simp [ht] at hb
        | some v =>
         simp only [ht,Option.getD_some] at hb
         subst hb
         have h1 := inv_bool (hsim.ts d _ ht)
         have hlt:d < a.tmps.size := by rw [hsim.size]; exact (List.getElem?_eq_some_iff.1 ht).1
         have e2:a.tmps.getD d undef = a.tmps[d] := by simp [Array.getD,hlt]
         rw [e2] at h1
         simp [hlt,h1]
       have hy:yielded ops a.tmps gi = some b := by simp [yielded,hd,hval]
       have hw:Region.wanted o (yielded ops a.tmps) = decide (b = want) := by
        simp only [Region.wanted,hg,hy]
        cases b <;> cases want <;> rfl
       rw [hw]
       split at hr
       ·rename_i e
        rw [if_pos (by simp [e])]
        exact step_sound h hi (hD o (List.mem_cons_self)) hr next Q
       ·rename_i e
        rw [if_neg (by simp [e])]
        refine ⟨fun _ _ => trivial,next _ _ _ hr ?_⟩
        obtain ⟨Φ,S,hsim⟩ := h
        rw [hdst]
        exact ⟨Φ,S,hsim.put (hD o (List.mem_cons_self)) .no⟩
      ·rename_i hb
       rw [no_wanted h hg hd hb,if_neg (by simp)]
       refine ⟨fun _ _ => trivial,next _ _ _ hr ?_⟩
       obtain ⟨Φ,S,hsim⟩ := h
       rw [hdst]
       exact ⟨Φ,S,hsim.put (hD o (List.mem_cons_self)) .no⟩
      ·exact hr.elim
   ·cases hi'
  ·cases hc
end

theorem seqrng_sound {P:Program} {m:Nat} {w0:World} {S0 Jo:Nat→Prop} {D:Bs} {sites:List Nat} {id bid:Nat} {ops:Array Oper} {l:List Oper} {o:Oper} {c:Call} {f:FuncId} {t:Nat} {il:List AIns} (hl:ops.toList = l ++ [o]) (hop:o.op = .call c) (hcal:c.callee = .value (.func f)) (hcl:callable P f = true)
  (hdst:o.dst = some t) (hog:o.guard = none) {ps:Array Tmp} {assign body:Code} {bs:List Nat} {x y:ACode} (hx:∀ l,Snd P m l assign x bs) (hy:∀ l,Snd P m l body y bs) (hps:∀ p∈ps.toList,p∈bs) (hd:¬ D.keep t) (hD:∀ o∈l,∀ k,o.dst = some k→¬ D.keep k) (hil:optAll (cIns P sites ops) l = some il)
  {Q:AEx→St→Prop} {Q' : Exit→Act→World→Prop} {st:St} {a:Act} {w:World} (h:SimE m w0 S0 Jo D st a w) (hlow0:D.low≤w0.heap.size) (hlen:∀ n ds ds',D.len n ds→D.len n ds')
  (hw:ARun P m il st (fun st' => t < st'.ts.length∧∃ xs vs,optAll (pur st'.hp) ((c.args.toList.map cO).map st'.get) = some xs∧((c.args.toList.map cO).map st'.get).flatMap slots = []∧IterC P f xs vs∧∃ s0,Weak m (St.put st' (some t) .und) s0 ∧
   RngK (fun xs s K => xs.length = ps.toList.length∧AWp P m x (AEx.seq (AWp P m y (fun e s' => ∃ s1,Weak m (s'.mask bs) s1∧K e s1)) (fun _ _ => False)) (s.puts ps.toList xs)) (AEx.blk bid Q) vs s0))
  (hQ:∀ e st a w,Q e st→SimE m w0 S0 Jo D st a w→Q' e.to a w):(Code.seq (.region id ops false) (.block bid (.rangeFunc (.tmp t) ps assign body))).wpIn (Fw none) 0 P Q' a w := by
 refine wpIn_seq (wpIn_region_list ?_)
 rw [hl]
 refine run_sound_app (fun st' a' w' hk hs => ?_) l il st a w hD hil h hw
 simp only [wpListIn]
 rw [if_pos (by simp [Region.wanted,hog])]
 obtain ⟨ht,xs,vs,h1,h2,h3,s0,h4,h5⟩ := hk
 obtain ⟨Φ,S,hs⟩ := hs
 refine seqcall_sound hs hop hcal hcl hdst hd h1 h2 h3 (fun w1 f0 first caps C hf hs1 hf0 hC hI => ?_)
 show (Code.block bid (Code.rangeFunc (.tmp t) ps assign body)).wpIn (Fw none) 0 P Q' _ _
 obtain ⟨Φ',hs2,hlv⟩ := weak_live h4 hs1
 have hlt:∀ b,C b→b < w1.heap.size := fun b hb => by obtain ⟨_,arr,ty,fz,e⟩ := hC b hb; exact (Array.getElem?_eq_some_iff.1 e).1
 refine wpIn_block (rangec_sound hx hy hps hs2 hlow0 hlen ?_ hf0 (fun b hb => ⟨Nat.le_trans hs.frame.size (hC b hb).1,hlt b hb⟩) (fun b hb hS => ?_) (fun b hb hL => ?_) (fun b hb => (hC b hb).2) hI h5 ?_)
 ·have ht' : t < a'.tmps.size := by rw [hs.size]; exact ht
  simp [Act.eval,Act.put,ht']
 ·have := hs.Slt b hS; have := (hC b hb).1; omega
 ·have h6:liveB Φ st' b := hlv b hL
  obtain ⟨⟨arr,ty,e⟩,_⟩ := liveB_cells hs h6
  have := (Array.getElem?_eq_some_iff.1 e).1; have := (hC b hb).1; omega
 ·intro e s a w h1 h2
  cases e with
  | normal => exact hQ .normal s a w h1 h2
  | exit j =>
   simp only [AEx.blk] at h1
   simp only [AEx.to,Exit.inBlock]
   split at h1
   ·rename_i e; rw [if_pos e]; exact hQ .normal s a w h1 h2
   ·rename_i e; rw [if_neg e]; exact hQ (.exit j) s a w h1 h2
  | ret => exact hQ .ret s a w h1 h2
omit [Laid] in
theorem fuse_cases (P:Program) (a b:ACode):fuse P a b = .seq a b ∨ ∃ il s f args t ps bs x y bid,a = .reg (il ++ [⟨some t,none,.call s f args⟩])∧b = .block bid (.rng (.t t) ps bs x y)∧fuse P a b = .seq (.reg il) (.block bid (.rngc f args t ps bs x y)) := by
 unfold fuse
 split
 ·rename_i il bid t ps bs x y
  split
  ·rename_i t' s f args hl
   split
   ·rename_i he
    simp only [Bool.and_eq_true] at he
    have ht:t = t' := Nat.eq_of_beq_eq_true he.1
    subst ht
    right
    obtain ⟨l,rfl⟩ := List.getLast?_eq_some_iff.1 hl
    exact ⟨l,s,f,args,t,ps,bs,x,y,bid,rfl,rfl,by simp⟩
   ·exact .inl rfl
  ·exact .inl rfl
 ·exact .inl rfl
omit [Laid] in
theorem optAll_snoc {α β:Type} {g:α→Option β}:∀ {l:List α} {r:List β} {z:β},optAll g l = some (r ++ [z])→∃ l' o,l = l' ++ [o]∧optAll g l' = some r∧g o = some z
 | [],r,z,h => by simp [optAll] at h
 | x :: l,r,z,h => by
  simp only [optAll] at h
  split at h
  ·rename_i y s hy hs
   simp only [sJ] at h
   cases r with
   | nil =>
    simp only [List.nil_append,List.cons.injEq] at h
    obtain ⟨rfl,rfl⟩ := h
    cases l with
    | nil => exact ⟨[],x,rfl,rfl,hy⟩
    | cons x2 l2 =>
     simp only [optAll] at hs
     split at hs <;> simp at hs
   | cons r0 r =>
    simp only [List.cons_append,List.cons.injEq] at h
    obtain ⟨rfl,rfl⟩ := h
    obtain ⟨l',o,rfl,h1,h2⟩ := optAll_snoc hs
    exact ⟨x :: l',o,rfl,by simp only [optAll,hy,h1],h2⟩
  ·cases h
theorem ins_call {P:Program} {sites:List Nat} {ops:Array Oper} {o:Oper} {t s:Nat} {f:FuncId} {args:List Opd} (h:cIns P sites ops o = some ⟨some t,none,.call s f args⟩) :
  o.dst = some t∧o.guard = none∧∃ c:Call,o.op = .call c∧c.callee = .value (.func f)∧callable P f = true∧args = c.args.toList.map cO := by
 unfold cIns at h
 split at h
 ·rename_i op hop
  simp only [sJ,AIns.mk.injEq] at h
  obtain ⟨h1,h2,rfl⟩ := h
  refine ⟨h1,by simpa using h2,?_⟩
  unfold cAI at hop
  split at hop
  ·rename_i c hc
   split at hop
   ·rename_i f' hf
    split at hop
    ·rename_i hcl
     simp only [sJ,AI.call.injEq] at hop
     obtain ⟨_,rfl,rfl⟩ := hop
     exact ⟨c,hc,hf,hcl,rfl⟩
    ·simp at hop
   ·simp at hop
   ·simp at hop
  ·simp at hop
 ·cases h
theorem reg_inv {P:Program} {sites:List Nat} {rf:Bool} {x:Code} {il:List AIns} (h:cCode P sites rf x = some (.reg il)):∃ id ops,x = .region id ops false∧optAll (cIns P sites ops) ops.toList = some il := by
 cases x with
 | region id ops d =>
  cases d with
  | false =>
   simp only [cCode,Option.map_eq_some_iff,ACode.reg.injEq] at h
   obtain ⟨l,h1,rfl⟩ := h
   exact ⟨id,ops,rfl,h1⟩
  | true => simp [cCode] at h
 | seq a b =>
  simp only [cCode] at h
  split at h
  ·rename_i ax ay _ _
   simp only [sJ] at h
   rcases fuse_cases P ax ay with e | ⟨_,_,_,_,_,_,_,_,_,_,_,_,e⟩ <;> rw [e] at h <;> cases h
  ·cases h
 | cond o a b =>
  simp only [cCode] at h
  split at h <;> cases h
 | rangeFunc g ps a b =>
  cases rf with
  | false => simp [cCode] at h
  | true =>
   simp only [cCode] at h
   split at h <;> cases h
 | _ => cases rf <;> simp [cCode] at h
theorem blk_inv {P:Program} {sites:List Nat} {rf:Bool} {y:Code} {bid:Nat} {ax:ACode} (h:cCode P sites rf y = some (.block bid ax)):∃ y',y = .block bid y'∧cCode P sites rf y' = some ax := by
 cases y with
 | region id ops d => cases d <;> simp [cCode] at h
 | block id y =>
  simp only [cCode,Option.map_eq_some_iff,ACode.block.injEq] at h
  obtain ⟨z,h1,rfl,rfl⟩ := h
  exact ⟨y,rfl,h1⟩
 | seq a b =>
  simp only [cCode] at h
  split at h
  ·rename_i ax ay _ _
   simp only [sJ] at h
   rcases fuse_cases P ax ay with e | ⟨_,_,_,_,_,_,_,_,_,_,_,_,e⟩ <;> rw [e] at h <;> cases h
  ·cases h
 | cond o a b =>
  simp only [cCode] at h
  split at h <;> cases h
 | rangeFunc g ps a b =>
  cases rf with
  | false => simp [cCode] at h
  | true =>
   simp only [cCode] at h
   split at h <;> cases h
 | _ => cases rf <;> simp [cCode] at h
theorem cO_const (v:Value) (t:Nat):¬ cO (.const v) = .t t := by
 intro h
 have h' : Opd.c (constV v) = .t t := h
 cases h'
theorem rng_inv {P:Program} {sites:List Nat} {rf:Bool} {y:Code} {t:Nat} {ps bs:List Nat} {ax ay:ACode} (h:cCode P sites rf y = some (.rng (.t t) ps bs ax ay)) :
  rf = true∧∃ pa a b,y = .rangeFunc (.tmp t) pa a b∧ps = pa.toList∧bs = pa.toList ++ (dstsOf a ++ dstsOf b)∧cCode P sites false a = some ax∧cCode P sites false b = some ay := by
 cases y with
 | region id ops d => cases d <;> simp [cCode] at h
 | seq a b =>
  simp only [cCode] at h
  split at h
  ·rename_i ax ay _ _
   simp only [sJ] at h
   rcases fuse_cases P ax ay with e | ⟨_,_,_,_,_,_,_,_,_,_,_,_,e⟩ <;> rw [e] at h <;> cases h
  ·cases h
 | cond o a b =>
  simp only [cCode] at h
  split at h <;> cases h
 | rangeFunc g pa a b =>
  cases rf with
  | false => simp [cCode] at h
  | true =>
   simp only [cCode] at h
   split at h
   ·rename_i x y hx hy
    simp only [sJ,ACode.rng.injEq] at h
    obtain ⟨hg,rfl,rfl,rfl,rfl⟩ := h
    refine ⟨rfl,pa,a,b,?_,rfl,rfl,hx,hy⟩
    cases g with
    | tmp k => cases hg; rfl
    | func f => simp only [cG] at hg; split at hg <;> cases hg
    | const v => exact absurd hg (cO_const v t)
    | global k =>
     simp only [cG,cO] at hg
     split at hg <;> cases hg
   ·cases h
 | _ => cases rf <;> simp [cCode] at h
omit [Laid] in
theorem mem_dsts {id:Nat} {ops:Array Oper} {d:Bool} {D:Bs} (hD:∀ k∈dstsOf (.region id ops d),¬ D.keep k):∀ o∈ops.toList,∀ k,o.dst = some k→¬ D.keep k :=
 fun o ho k hk => hD k (List.mem_filterMap.2 ⟨o,ho,hk⟩)

theorem awp_sound_aux {P:Program} {sites:List Nat} (ok:Bool) (hin:ok = true→∀ (c:Code) (ac:ACode) (m:Nat) (w0:World) (S0 Jo:Nat→Prop) (D:Bs) (l:Nat) (Q:AEx→St→Prop) (Q' : Exit→Act→World→Prop) (st:St) (a:Act) (w:World),
  D.low≤w0.heap.size→cCode P sites false c = some ac→(∀ k∈dstsOf c,¬ D.keep k)→SimE m w0 S0 Jo D st a w→AWp P m ac Q st→(∀ e st a w,Q e st→SimE m w0 S0 Jo D st a w→Q' e.to a w)→c.wpIn (Fw (some l)) 0 P Q' a w):∀ (c:Code) (rf:Bool) (ac:ACode) (m:Nat) (w0:World) (S0 Jo:Nat→Prop) (D:Bs) (ro:Option Nat) (Q:AEx→St→Prop) (Q' : Exit→Act→World→Prop) (st:St) (a:Act) (w:World),
  (rf = true→ok = true∧ro = none∧∀ n ds ds',D.len n ds→D.len n ds')→D.low≤w0.heap.size→cCode P sites rf c = some ac→(∀ k∈dstsOf c,¬ D.keep k)→SimE m w0 S0 Jo D st a w→AWp P m ac Q st →
  (∀ e st a w,Q e st→SimE m w0 S0 Jo D st a w→Q' e.to a w)→c.wpIn (Fw ro) 0 P Q' a w := by
 intro c
 induction c with
 | skip =>
  intro rf ac m w0 S0 Jo D ro Q Q' st a w hro hlow hc hD h hw hQ
  simp only [cCode,sJ] at hc; subst hc
  exact wpIn_skip (hQ .normal st a w hw h)
 | region id ops d =>
  intro rf ac m w0 S0 Jo D ro Q Q' st a w hro hlow hc hD h hw hQ
  cases d with
  | true =>
   simp only [cCode,Option.map_eq_some_iff] at hc
   obtain ⟨⟨il,pairs⟩,hil,rfl⟩ := hc
   obtain ⟨fz,hfz,hw⟩ := hw
   obtain ⟨Φ,S,hsim⟩ := h
   obtain ⟨S2,_,_,g3⟩ := frzAll_sim fz S st hsim hfz
   exact regD_sound hil (mem_dsts hD) (fun st a w h1 h2 => hQ .normal st a w h1 h2) ⟨Φ,S2,g3⟩ hw
  | false =>
   simp only [cCode,Option.map_eq_some_iff] at hc
   obtain ⟨il,hil,rfl⟩ := hc
   exact wpIn_region_list (run_sound (fun st a w h1 h2 => hQ .normal st a w h1 h2) ops.toList il st a w (mem_dsts hD) hil h hw)
 | seq x y ihx ihy =>
  intro rf ac m w0 S0 Jo D ro Q Q' st a w hro hlow hc hD h hw hQ
  simp only [cCode] at hc
  split at hc
  ·rename_i ax ay hx hy
   simp only [sJ] at hc; subst hc
   have hDx:∀ k∈dstsOf x,¬ D.keep k := fun k hk => hD k (List.mem_append_left _ hk)
   have hDy:∀ k∈dstsOf y,¬ D.keep k := fun k hk => hD k (List.mem_append_right _ hk)
   rcases fuse_cases P ax ay with e | ⟨il,s,f,args,t,ps,bs,bx,by',bid,rfl,rfl,e⟩
   case inr =>
    rw [e] at hw
    obtain ⟨id,ops,rfl,hil⟩ := reg_inv hx
    obtain ⟨y',rfl,hy'⟩ := blk_inv hy
    obtain ⟨rfl,pa,ca,cb,rfl,rfl,rfl,hca,hcb⟩ := rng_inv hy'
    obtain ⟨l,o,hl,hl2,ho⟩ := optAll_snoc hil
    obtain ⟨hdst,hog,c,hop,hcal,hcl,rfl⟩ := ins_call ho
    obtain ⟨hok,rfl,hlen⟩ := hro rfl
    exact seqrng_sound hl hop hcal hcl hdst hog (fun l w0 S0 Jo D Q Q' st a w hlow hD h hw hQ => hin hok ca _ _ _ _ _ _ l Q Q' st a w hlow hca (fun k hk => hD k (List.mem_append_right _ (List.mem_append_left _ hk))) h hw hQ)
     (fun l w0 S0 Jo D Q Q' st a w hlow hD h hw hQ => hin hok cb _ _ _ _ _ _ l Q Q' st a w hlow hcb (fun k hk => hD k (List.mem_append_right _ (List.mem_append_right _ hk))) h hw hQ) (fun p hp => List.mem_append_left _ hp)
     (mem_dsts hDx o (by rw [hl]; simp) t hdst) (fun o' ho' => mem_dsts hDx o' (by rw [hl]; exact List.mem_append_left _ ho')) hl2 h hlow hlen hw hQ
   rw [e] at hw
   refine wpIn_seq (ihx rf ax _ _ _ _ _ _ _ _ st a w hro hlow hx hDx h hw ?_)
   intro e s a w h1 h2
   cases e with
   | normal => exact ihy rf ay _ _ _ _ _ _ Q Q' s a w hro hlow hy hDy h2 h1 hQ
   | exit id => exact hQ (.exit id) s a w h1 h2
   | ret => exact hQ .ret s a w h1 h2
  ·cases hc
 | cond o x y ihx ihy =>
  intro rf ac m w0 S0 Jo D ro Q Q' st a w hro hlow hc hD h hw hQ
  simp only [cCode] at hc
  split at hc
  ·rename_i ax ay hx hy
   simp only [sJ] at hc; subst hc
   simp only [AWp] at hw
   split at hw
   ·rename_i b hb
    have hev:a.eval o = .bool b := by
     obtain ⟨Φ,S,hsim⟩ := h
     have := rel_get hsim o
     rw [hb] at this; exact inv_bool this
    refine wpIn_cond hev ?_
    split at hw
    ·rename_i e; subst e; exact ihx rf ax _ _ _ _ _ _ Q Q' st a w hro hlow hx (fun k hk => hD k (List.mem_append_left _ hk)) h hw hQ
    ·rename_i e
     have e' : b = false := by simpa using e
     subst e'; exact ihy rf ay _ _ _ _ _ _ Q Q' st a w hro hlow hy (fun k hk => hD k (List.mem_append_right _ hk)) h hw hQ
   ·rename_i n hb
    obtain ⟨b,hev,hn⟩ : ∃ b,a.eval o = .bool b∧(b = true→n = 0) := by
     obtain ⟨Φ,S,hsim⟩ := h
     have := rel_get hsim o
     rw [hb] at this
     exact inv_ub this
    refine wpIn_cond hev ?_
    cases b with
    | true => exact ihx rf ax _ _ _ _ _ _ Q Q' st a w hro hlow hx (fun k hk => hD k (List.mem_append_left _ hk)) h (hw.1 (hn rfl)) hQ
    | false => exact ihy rf ay _ _ _ _ _ _ Q Q' st a w hro hlow hy (fun k hk => hD k (List.mem_append_right _ hk)) h hw.2 hQ
   ·exact hw.elim
  ·cases hc
 | block id x ih =>
  intro rf ac m w0 S0 Jo D ro Q Q' st a w hro hlow hc hD h hw hQ
  simp only [cCode,Option.map_eq_some_iff] at hc
  obtain ⟨ax,hx,rfl⟩ := hc
  refine wpIn_block (ih rf ax _ _ _ _ _ _ _ _ st a w hro hlow hx hD h hw ?_)
  intro e s a w h1 h2
  cases e with
  | normal => exact hQ .normal s a w h1 h2
  | exit j =>
   simp only [AEx.blk] at h1
   simp only [AEx.to,Exit.inBlock]
   split at h1
   ·rename_i e; rw [if_pos e]; exact hQ .normal s a w h1 h2
   ·rename_i e; rw [if_neg e]; exact hQ (.exit j) s a w h1 h2
  | ret => exact hQ .ret s a w h1 h2
 | loop x ih =>
  intro rf ac m w0 S0 Jo D ro Q Q' st a w hro hlow hc hD h hw hQ
  simp only [cCode,Option.map_eq_some_iff] at hc
  obtain ⟨ax,hx,rfl⟩ := hc
  obtain ⟨I,μ,⟨s0,hs0,hI⟩,hr⟩ := hw
  have weak:∀ s s',Weak m s s'→∀ a w,SimE m w0 S0 Jo D s a w→SimE m w0 S0 Jo D s' a w := fun s s' hws a w ⟨Φ,S,hsim⟩ => (hws _ _ _ _ _ _ _ _ hsim).imp fun Φ' h' => ⟨S,h'⟩
  have weakF:∀ s s',WeakF m s s'→∀ a w,SimE m w0 S0 Jo D s a w→SimE m w0 S0 Jo D s' a w := fun s s' hws a w ⟨Φ,S,hsim⟩ => hws _ _ _ _ _ _ _ _ hsim
  let J:Nat→Act→World→Prop := fun n a w => ∃ s,I s∧μ s = n∧SimE m w0 S0 Jo D s a w
  refine wpIn_loop (fun a w => ∃ n,J n a w) (fun a w => leastOf (fun n => J n a w)) ⟨_,s0,hI,rfl,weakF _ _ hs0 a w h⟩ ?_
  intro a w hJ
  obtain ⟨⟨s,hIs,hμ,hsim⟩,hleast⟩ := leastOf_spec hJ
  refine ih rf ax _ _ _ _ _ _ _ _ s a w hro hlow hx hD hsim (hr s hIs) ?_
  intro e s' a' w' h1 h2
  cases e with
  | normal =>
   obtain ⟨s1,k1,k2,k3⟩ := h1
   have hJ1:J (μ s1) a' w' := ⟨s1,k2,rfl,weak _ _ k1 a' w' h2⟩
   refine ⟨⟨_,hJ1⟩,?_⟩
   have := (leastOf_spec (p := fun n => J n a' w') ⟨_,hJ1⟩).2 _ hJ1
   omega
  | exit j => exact hQ (.exit j) s' a' w' h1 h2
  | ret => exact hQ .ret s' a' w' h1 h2
 | exit id =>
  intro rf ac m w0 S0 Jo D ro Q Q' st a w hro hlow hc hD h hw hQ
  simp only [cCode,sJ] at hc; subst hc
  exact wpIn_exit (hQ (.exit id) st a w hw h)
 | ret =>
  intro rf ac m w0 S0 Jo D ro Q Q' st a w hro hlow hc hD h hw hQ
  simp only [cCode,sJ] at hc; subst hc
  exact wpIn_ret (hQ .ret st a w hw h)
 | rangeFunc g ps x y ihx ihy =>
  intro rf ac m w0 S0 Jo D ro Q Q' st a w hro hlow hc hD h hw hQ
  cases rf with
  | false => simp [cCode] at hc
  | true =>
   obtain ⟨_,e,hlen⟩ := hro rfl
   subst e
   simp only [cCode] at hc
   split at hc
   ·rename_i ax ay hx hy
    simp only [sJ] at hc; subst hc
    refine range_sound (fun l w0 S0 Jo D Q Q' st a w hlow hD h hw hQ => ihx false ax _ _ _ _ _ (some l) Q Q' st a w (fun e => nomatch e) hlow hx (fun k hk => hD k (List.mem_append_right _ (List.mem_append_left _ hk))) h hw hQ)
     (fun l w0 S0 Jo D Q Q' st a w hlow hD h hw hQ => ihy false ay _ _ _ _ _ (some l) Q Q' st a w (fun e => nomatch e) hlow hy (fun k hk => hD k (List.mem_append_right _ (List.mem_append_right _ hk))) h hw hQ) (fun p hp => List.mem_append_left _ hp) h hlow hlen hw hQ
   ·cases hc
 | scope => intro rf ac m w0 S0 Jo D ro Q Q' st a w hro hlow hc; cases rf <;> simp [cCode] at hc
 | label => intro rf ac m w0 S0 Jo D ro Q Q' st a w hro hlow hc; cases rf <;> simp [cCode] at hc
 | goto => intro rf ac m w0 S0 Jo D ro Q Q' st a w hro hlow hc; cases rf <;> simp [cCode] at hc
 | refuse => intro rf ac m w0 S0 Jo D ro Q Q' st a w hro hlow hc; cases rf <;> simp [cCode] at hc
theorem awp_sound {P:Program} {sites:List Nat}:∀ (c:Code) (rf:Bool) (ac:ACode) (m:Nat) (w0:World) (S0 Jo:Nat→Prop) (D:Bs) (ro:Option Nat) (Q:AEx→St→Prop) (Q' : Exit→Act→World→Prop) (st:St) (a:Act) (w:World),
  (rf = true→ro = none∧∀ n ds ds',D.len n ds→D.len n ds')→D.low≤w0.heap.size→cCode P sites rf c = some ac→(∀ k∈dstsOf c,¬ D.keep k)→SimE m w0 S0 Jo D st a w→AWp P m ac Q st →
  (∀ e st a w,Q e st→SimE m w0 S0 Jo D st a w→Q' e.to a w)→c.wpIn (Fw ro) 0 P Q' a w := fun c rf ac m w0 S0 Jo D ro Q Q' st a w hro hlow hc hD h hw hQ =>
 awp_sound_aux true (fun _ c ac m w0 S0 Jo D l Q Q' st a w hlow hc hD h hw hQ => awp_sound_aux false (fun e => nomatch e) c false ac m w0 S0 Jo D (some l) Q Q' st a w (fun e => nomatch e) hlow hc hD h hw hQ) c rf ac m w0 S0 Jo D ro Q Q' st a w (fun e => ⟨rfl,hro e⟩) hlow hc hD h hw hQ
end Go.Mx
