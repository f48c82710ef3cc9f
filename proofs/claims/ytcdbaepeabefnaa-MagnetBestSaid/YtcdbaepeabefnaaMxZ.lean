/- Layers of the walk: abstract values, operations, calls, loops, and what they do. No condition. -/
import Derived.Test.YtcdbaepeabefnaaMxO
namespace Go.Mx
variable [Laid]
open Go.RowKit

section
variable {P:Program} {m:Nat} {w0:World} {S0 Jo:Nat→Prop} {D:Bs} {Φ:Plc} {S:Nat→Prop} {st:St} {a:Act} {w:World}

theorem Sim.other (h:Sim m w0 S0 Jo D Φ S st a w) {l:Nat} {o o' : Obj} (hl:w.heap[l]? = some o) (hc:∀ arr ty fz,o ≠ Obj.cells arr ty fz) (hd:∀ x,o ≠ Obj.deferred x) (hS:¬ S l) (h0:w0.heap.size≤l):Sim m w0 S0 Jo D Φ S st a (w.putObj l o') := by
 have hne:∀ c arr ty fz,w.heap[c]? = some (.cells arr ty fz)→c ≠ l := fun c arr ty fz e e' => by subst e'; rw [hl] at e; injection e with e; exact hc _ _ _ e
 have hw:∀ b,S b→(w.putObj l o').heap[b]? = w.heap[b]? := fun b hb => World.putObj_heap_other (fun e => hS (e ▸ hb))
 refine ⟨h.defers.keep fun r x e => (World.putObj_heap_other (fun e' => by subst e'; rw [hl] at e; injection e with e; exact hd _ e)).trans e,h.same,h.size,fun t v hv => (h.ts t v hv).mono (fun _ _ _ e => e) (fun _ e => e) hw,?_,h.fresh,h.inj,fun b hb => by rw [World.putObj_size]; exact h.Slt b hb,h.Sold,h.Snew,?_,h.io,h.glob.mono (fun _ e => e) hw⟩
 ·intro t b hb
  have hB := h.hp t b hb
  unfold BRel at hB ⊢
  split at hB
  ·trivial
  ·rcases hB with hB | ⟨c,sz,arr,ty,k1,k2,k3,k4,k5,k6,k7⟩
   ·exact .inl hB
   ·exact .inr ⟨c,sz,arr,ty,k1,(World.putObj_heap_other (hne _ _ _ _ k2)).trans k2,k3,k4,fun i x hx => (k5 i x hx).mono (fun _ _ _ e => e) (fun _ e => e) hw,k6,k7⟩
  ·rcases hB with hB | ⟨c,sz,k1,k2,arr,ty,fz,k3,k4,k5⟩
   ·exact .inl hB
   ·exact .inr ⟨c,sz,k1,k2,arr,ty,fz,(World.putObj_heap_other (hne _ _ _ _ k3)).trans k3,k4,fun i x hx => (k5 i x hx).mono (fun _ _ _ e => e) (fun _ e => e) hw⟩
 ·have hf := h.frame
  exact ⟨hf.os,hf.tape,hf.output,by rw [World.putObj_size]; exact hf.size,fun b hb hio => (World.putObj_heap_other (by omega)).trans (hf.block b hb hio)⟩

def jbY (Φ:Plc) (st:St) (c:Nat):Prop := ∃ t b sz,st.hp[t]? = some b∧b.st = .live∧Φ t b.ver = some (.blk c sz)

theorem jeJ (h:Sim m w0 S0 Jo D Φ S st a w) {c:Nat} (hc:jbY Φ st c):(∃ arr ty,w.heap[c]? = some (.cells arr ty (0,0)))∧¬ S c∧(Jo c ∨ w0.heap.size≤c) := by
 obtain ⟨t,b,sz,hb,hl,hp⟩ := hc
 obtain ⟨arr,ty,k1,k2,k3,k4,k5,k6⟩ := jcv h hb hl hp
 exact ⟨⟨arr,ty,k1⟩,k5,k6⟩

omit [Laid] in
theorem jGd {bs:List Nat}:∀ {ts:List V} {t:Nat} {v:V},(jdj bs ts)[t]? = some v→v = .und ∨ (t ∉ bs∧ts[t]? = some v) := by
 induction bs with
 | nil => intro ts t v h; exact .inr ⟨by simp,h⟩
 | cons k bs ih =>
  intro ts t v h
  rcases ih (ts := ts.set k .und) h with h | ⟨h1,h2⟩
  ·exact .inl h
  ·rw [List.getElem?_set] at h2
   by_cases e:k = t
   ·rw [if_pos e] at h2
    split at h2
    ·left; simpa using h2.symm
    ·cases h2
   ·rw [if_neg e] at h2
    exact .inr ⟨by simp [h1]; exact fun e' => e e'.symm,h2⟩
omit [Laid] in
theorem juE {bs:List Nat}:∀ {ts:List V},(jdj bs ts).length = ts.length := by
 induction bs with
 | nil => intro ts; rfl
 | cons k bs ih => intro ts; exact (ih (ts := ts.set k .und)).trans (by simp)

def jdk:List (Nat×Value)→Array Value→Array Value
 | [],t => t
 | (p,v) :: r,t => jdk r (t.setIfInBounds p v)
omit [Laid] in
theorem juF:∀ (l:List (Nat×Value)) (t:Array Value),l.foldl (fun t (x:Nat×Value) => t.setIfInBounds x.1 x.2) t = jdk l t
 | [],_ => rfl
 | _ :: r,t => juF r _
omit [Laid] in
theorem jok:∀ (l:List (Nat×Value)) (t:Array Value),(jdk l t).size = t.size
 | [],_ => rfl
 | (p,v) :: r,t => (jok r _).trans (by simp)
omit [Laid] in
theorem juG:∀ (l:List (Nat×V)) (t:List V),(jeI l t).length = t.length
 | [],_ => rfl
 | (p,v) :: r,t => (juG r _).trans (by simp)
omit [Laid] in
theorem juH:∀ (l:List (Nat×Value)) (t:Array Value) (k:Nat),k ∉ l.map (·.1)→(jdk l t).getD k undef = t.getD k undef
 | [],_,_,_ => rfl
 | (p,v) :: r,t,k,h => by
  simp only [List.map_cons,List.mem_cons,not_or] at h
  exact (juH r _ k h.2).trans (by rw [jfZ,if_neg (fun e => h.1 e.1.symm)])
omit [Laid] in
theorem juI:∀ (ps:List Nat) (xs:List V) (vs:List Value) (ts:List V) (t:Array Value),xs.length = vs.length→t.size = ts.length→(∀ i v,ts[i]? = some v→VRel Φ S w v (t.getD i undef)) →
  (∀ (i:Nat) (v:V),xs[i]? = some v→VRel Φ S w v ((vs[i]?).getD undef))→∀ i v,(jeI (ps.zip xs) ts)[i]? = some v→VRel Φ S w v ((jdk (ps.zip vs) t).getD i undef)
 | [],_,_,_,_,_,_,h,_ => by simpa [jeI,jdk] using h
 | _ :: _,[],[],_,_,_,_,h,_ => by simpa [jeI,jdk] using h
 | _ :: _,[],_ :: _,_,_,hl,_,_,_ => by simp at hl
 | _ :: _,_ :: _,[],_,_,hl,_,_,_ => by simp at hl
 | p :: ps,x :: xs,y :: vs,ts,t,hl,hs,h,hv => by
  simp only [List.zip_cons_cons,jeI,jdk]
  refine juI ps xs vs _ _ (by simpa using hl) (by simpa using hs) ?_ (fun i v hi => by simpa using hv (i + 1) v (by simpa using hi))
  intro i v hi
  rw [jfZ]
  rw [List.getElem?_set] at hi
  by_cases e:p = i
  ·rw [if_pos e] at hi
   split at hi
   ·rename_i hlt
    rw [if_pos ⟨e,by rw [hs]; omega⟩]
    simp only [sJ] at hi; subst hi
    simpa using hv 0 x rfl
   ·cases hi
  ·rw [if_neg e] at hi
   rw [if_neg (fun hh => e hh.1)]
   exact h i v hi

theorem jGe (h:Sim m w0 S0 Jo D Φ S st a w) {bs ps:List Nat} (hps:∀ p∈ps,p∈bs) {xs:List V} {vs:List Value} (hl:xs.length = vs.length) (hv:∀ (i:Nat) (v:V),xs[i]? = some v→VRel Φ S w v ((vs[i]?).getD undef)) :
  Sim m w S (jbY Φ st) ⟨fun t => t ∉ bs,fun t => a.tmps.getD t undef,fun n _ => n = a.tmps.size,0,D.iob⟩ Φ S (st.puts ps xs) ⟨jdk (ps.zip vs) a.tmps,[]⟩ w := by
 refine ⟨trivial,⟨fun t ht => juH _ _ _ (fun hm => ht (hps t ?_)),jok _ _⟩,?_,juI ps xs vs st.ts a.tmps hl h.size h.ts hv,?_,h.fresh,h.inj,h.Slt,fun _ e => e,fun _ e => .inl e,Fr.refl _ _,h.io,h.glob⟩
 ·obtain ⟨q,hq,rfl⟩ := List.mem_map.1 hm
  exact (List.of_mem_zip hq).1
 ·show (jdk _ _).size = (jeI _ _).length
  rw [jok,juG]; exact h.size
 ·intro t b hb
  have hB := h.hp t b hb
  unfold BRel at hB ⊢
  split at hB
  ·trivial
  ·rename_i hl'
   rcases hB with hB | ⟨c,sz,arr,ty,k1,k2,k3,k4,k5,k6,k7⟩
   ·exact .inl hB
   ·exact .inr ⟨c,sz,arr,ty,k1,k2,k3,k4,k5,k6,.inl ⟨t,b,sz,hb,hl',k1⟩⟩
  ·exact hB

theorem juJ (h:Sim m w0 S0 Jo D Φ S st a w) {l:Nat} {o o' : Obj} (hl:w.heap[l]? = some o) (hc:∀ arr ty fz,o ≠ Obj.cells arr ty fz) (hd:∀ x,o ≠ Obj.deferred x) (hS:¬ S l):Sim m (w.putObj l o') S (jbY Φ st) D Φ S st a (w.putObj l o') := by
 have hne:∀ c arr ty fz,w.heap[c]? = some (.cells arr ty fz)→c ≠ l := fun c arr ty fz e e' => by subst e'; rw [hl] at e; injection e with e; exact hc _ _ _ e
 have hw:∀ b,S b→(w.putObj l o').heap[b]? = w.heap[b]? := fun b hb => World.putObj_heap_other (fun e => hS (e ▸ hb))
 refine ⟨h.defers.keep fun r x e => (World.putObj_heap_other (fun e' => by subst e'; rw [hl] at e; injection e with e; exact hd _ e)).trans e,h.same,h.size,fun t v hv => (h.ts t v hv).mono (fun _ _ _ e => e) (fun _ e => e) hw,?_,h.fresh,h.inj,fun b hb => by rw [World.putObj_size]; exact h.Slt b hb,fun _ e => e,fun _ e => .inl e,Fr.refl _ _,h.io,h.glob.mono (fun _ e => e) hw⟩
 intro t b hb
 have hB := h.hp t b hb
 unfold BRel at hB ⊢
 split at hB
 ·trivial
 ·rename_i hl'
  rcases hB with hB | ⟨c,sz,arr,ty,k1,k2,k3,k4,k5,k6,k7⟩
  ·exact .inl hB
  ·exact .inr ⟨c,sz,arr,ty,k1,(World.putObj_heap_other (hne _ _ _ _ k2)).trans k2,k3,k4,fun i x hx => (k5 i x hx).mono (fun _ _ _ e => e) (fun _ e => e) hw,k6,.inl ⟨t,b,sz,hb,hl',k1⟩⟩
 ·rcases hB with hB | ⟨c,sz,k1,k2,arr,ty,fz,k3,k4,k5⟩
  ·exact .inl hB
  ·exact .inr ⟨c,sz,k1,k2,arr,ty,fz,(World.putObj_heap_other (hne _ _ _ _ k3)).trans k3,k4,fun i x hx => (k5 i x hx).mono (fun _ _ _ e => e) (fun _ e => e) hw⟩

structure Ev (l:Nat) (L:Nat→Prop) (w w' : World) (S S' L' : Nat→Prop):Prop where
 os:w'.os = w.os
 tape:w'.tape = w.tape
 output:w'.output = w.output
 size:w.heap.size≤w'.heap.size
 block:∀ b,b < w.heap.size→¬ L b→b ≠ l→w'.heap[b]? = w.heap[b]?
 live:∀ c,L' c→L c ∨ w.heap.size≤c
 old:∀ b,S b→S' b
 new:∀ b,S' b→S b ∨ w.heap.size≤b ∨ L b
omit [Laid] in
theorem Ev.trans {l:Nat} {L L' L'' S S' S'' : Nat→Prop} {w w' w'' : World} (h:Ev l L w w' S S' L') (k:Ev l L' w' w'' S' S'' L''):Ev l L w w'' S S'' L'' := by
 refine ⟨k.os.trans h.os,k.tape.trans h.tape,k.output.trans h.output,Nat.le_trans h.size k.size,fun b hb hL hl => ?_,fun c hc => ?_,fun b hb => k.old b (h.old b hb),fun b hb => ?_⟩
 ·refine (k.block b (Nat.lt_of_lt_of_le hb h.size) (fun hL' => ?_) hl).trans (h.block b hb hL hl)
  rcases h.live b hL' with q | q
  ·exact hL q
  ·omega
 ·rcases k.live c hc with q | q
  ·exact h.live c q
  ·exact .inr (Nat.le_trans h.size q)
 ·rcases k.new b hb with q | q | q
  ·exact h.new b q
  ·exact .inr (.inl (Nat.le_trans h.size q))
  ·rcases h.live b q with q | q
   ·exact .inr (.inr q)
   ·exact .inr (.inl q)
theorem Ev.of_sim {l:Nat} {L:Nat→Prop} {Φ' : Plc} {S' : Nat→Prop} {st' : St} {a' : Act} {w' : World} {D' : Bs} (h:Sim m w S L D' Φ' S' st' a' w'):Ev l L w w' S S' (jbY Φ' st') := by
 have f := h.frame
 exact ⟨f.os,f.tape,f.output,f.size,fun b hb hL _ => f.block b hb hL,fun c hc => (jeJ h hc).2.2,h.Sold,h.Snew⟩
omit [Laid] in
theorem Ev.put {l:Nat} {L S:Nat→Prop} (o:Obj):Ev l L w (w.putObj l o) S S L :=
 ⟨rfl,rfl,rfl,by simp,fun _ _ _ hl => World.putObj_heap_other hl,fun _ h => .inl h,fun _ h => h,fun _ h => .inl h⟩

theorem jGf {Φ' : Plc} {S' SB J:Nat→Prop} {B:World} {st' : St} {a' : Act} {w' : World} {bs:List Nat} {l:Nat} {n:Nat} {o:Obj} (h:Sim m w0 S0 Jo D Φ S st a w) (hl:w.heap[l]? = some o) (hd:∀ x,o ≠ Obj.deferred x) (h0:w0.heap.size≤l)
  (ev:Ev l (jbY Φ st) w w' S S' (jbY Φ' st')) (h' : Sim m B SB J ⟨fun t => t ∉ bs,fun t => a.tmps.getD t undef,fun n _ => n = a.tmps.size,n,D.iob⟩ Φ' S' st' a' w'):Sim m w0 S0 Jo D Φ' S' (st'.mask bs) a w' := by
 refine ⟨h.defers.keep fun r x e => ?_,h.same,by show a.tmps.size = (jdj bs st'.ts).length; rw [juE,← h'.size]; exact h'.same.2.symm,?_,?_,h'.fresh,h'.inj,h'.Slt,fun b hb => ev.old b (h.Sold b hb),?_,?_,h'.io,h'.glob⟩
 ·refine (ev.block r (Array.getElem?_eq_some_iff.1 e).1 (fun hL => ?_) (fun e' => ?_)).trans e
  ·obtain ⟨⟨arr,ty,e2⟩,_⟩ := jeJ h hL
   rw [e] at e2; cases e2
  ·subst e'; rw [hl] at e; injection e with e; exact hd _ e
 ·intro t v hv
  rcases jGd hv with rfl | ⟨h1,h2⟩
  ·exact .und _
  ·have e:a'.tmps.getD t undef = a.tmps.getD t undef := h'.same.1 t h1
   rw [← e]; exact h'.ts t v h2
 ·intro t b hb
  have hB := h'.hp t b hb
  unfold BRel at hB ⊢
  split at hB
  ·trivial
  ·rename_i hl'
   rcases hB with hB | ⟨c,sz,arr,ty,k1,k2,k3,k4,k5,k6,k7⟩
   ·exact .inl hB
   ·refine .inr ⟨c,sz,arr,ty,k1,k2,k3,k4,k5,k6,?_⟩
    rcases ev.live c ⟨t,b,sz,hb,hl',k1⟩ with q | q
    ·exact (jeJ h q).2.2
    ·exact .inr (Nat.le_trans h.frame.size q)
  ·exact hB
 ·intro b hb
  rcases ev.new b hb with hb | hb | hb
  ·exact h.Snew b hb
  ·exact .inr (.inl (Nat.le_trans h.frame.size hb))
  ·rcases (jeJ h hb).2.2 with hb | hb
   ·exact .inr (.inr hb)
   ·exact .inr (.inl hb)
 ·have f := h.frame
  refine ⟨ev.os.trans f.os,ev.tape.trans f.tape,ev.output.trans f.output,Nat.le_trans f.size ev.size,fun b hb hio => ?_⟩
  refine (ev.block b (Nat.lt_of_lt_of_le hb f.size) (fun hl => ?_) (by omega)).trans (f.block b hb hio)
  rcases (jeJ h hl).2.2 with q | q
  ·exact hio q
  ·omega
theorem jGg {S' S2 L' : Nat→Prop} {w' : World} {l:Nat} (h:Sim m w0 S0 Jo D Φ S st a w) (hl:¬ S l) (ev:Ev l (jbY Φ st) w w' S S' L') (h2:∀ b,S2 b→S b):Keeps S2 w w' :=
 ⟨ev.os,ev.tape,ev.output,ev.size,fun b hb => ev.block b (h.Slt b (h2 b hb)) (fun hL => (jeJ h hL).2.1 (h2 b hb)) (fun e => hl (e ▸ h2 b hb))⟩
end

def Snd (P:Program) (m l:Nat) (c:Code) (ac:ACode) (bs:List Nat):Prop :=
 ∀ (w0:World) (S0 Jo:Nat→Prop) (D:Bs) (Q:AEx→St→Prop) (Q' : Exit→Act→World→Prop) (st:St) (a:Act) (w:World),
  D.low≤w0.heap.size→(∀ k∈bs,¬ D.keep k)→SimE m w0 S0 Jo D st a w→AWp P m ac Q st→(∀ e st a w,Q e st→SimE m w0 S0 Jo D st a w→Q' e.to a w)→c.wpIn (Fw (some l)) 0 P Q' a w

def jGh:AEx→Option Code
 | .normal => none
 | .exit id => some (.exit id)
 | .ret => some .ret

omit [Laid] in
theorem inv_fn {Φ:Plc} {S:Nat→Prop} {w:World} {f:FuncId} {cap:List (List Pv)} {x:Value} (h:VRel Φ S w (.p (.fn f cap)) x):∃ f0 first caps,x = .func (.func f0) first caps∧PRel S w (.fn f cap) (.func (.func f0) first caps) := by
 cases h with
 | p _ _ h =>
  cases h with
  | fn _ _ caps hf b o cell hn hs hp h1 h2 => exact ⟨f,#[],caps,rfl,.fn f cap caps hf b o cell hn hs hp h1 h2⟩
  | bnd _ f0 cs arr hg hn h => exact ⟨f0,#[.agg arr],#[],rfl,.bnd _ f0 cs arr hg hn h⟩

omit [Laid] in
theorem jGi (ps:Array Nat) (args tmps:Array Value):(ps.zip args).foldl (fun tmps (x:Nat×Value) => tmps.setIfInBounds x.1 x.2) tmps = jdk (ps.toList.zip args.toList) tmps := by
 rw [← Array.foldl_toList,Array.toList_zip]; exact juF _ _

theorem jGj {P:Program} {m:Nat} {w0:World} {S0 Jo:Nat→Prop} {D:Bs} {g:Operand} {ps:Array Tmp} {assign body:Code} {bs:List Nat} {x y:ACode} (hx:∀ l,Snd P m l assign x bs) (hy:∀ l,Snd P m l body y bs) (hps:∀ p∈ps.toList,p∈bs)
  {Q:AEx→St→Prop} {Q' : Exit→Act→World→Prop} {st:St} {a:Act} {w:World} (h:SimE m w0 S0 Jo D st a w) (hlow0:D.low≤w0.heap.size) (hlen:∀ n ds ds',D.len n ds→D.len n ds') (hw:AWp P m (.rng (cG g) ps.toList bs x y) Q st)
  (hQ:∀ e st a w,Q e st→SimE m w0 S0 Jo D st a w→Q' e.to a w):(Code.rangeFunc g ps assign body).wpIn (Fw none) 0 P Q' a w := by
 obtain ⟨s0,hs0,f,cap,vs,hf,hg,hI,hrun⟩ := hw
 obtain ⟨Φ0,S,h⟩ := h
 obtain ⟨Φ,hsim⟩ := hs0 _ _ _ _ _ _ _ _ h
 have hlow:D.low≤w.heap.size := Nat.le_trans hlow0 hsim.frame.size
 have hval := jER hsim g
 rw [hg] at hval
 obtain ⟨f0,first,caps,hev,hprel⟩ := inv_fn hval
 refine wpIn_rangeFunc ?_
 intro fn hfn
 obtain ⟨rec,hrec⟩ : ∃ rec:LoopState→Option Code→Loop,rec = fun st pe => { state := st,pending := pe,fn,tmps := a.tmps,params := ps,assign,body,defers := w.heap.size } := ⟨_,rfl⟩
 obtain ⟨l,hlw⟩ : ∃ l,l = w.heap.size + 1 := ⟨_,rfl⟩
 obtain ⟨W1,hW1⟩ : ∃ W1,(w.alloc (.deferred (some []))).alloc (.loop (rec .ready none)) = W1 := ⟨_,rfl⟩
 have hL1:W1.heap[l]? = some (.loop (rec .ready none)) := by
  rw [← hW1,hlw]; have := World.alloc_heap_new (w.alloc (.deferred (some []))) (.loop (rec .ready none)); rwa [World.size_alloc] at this
 have hK1:W1.heap[w.heap.size]? = some (.deferred (some [])) := by
  rw [← hW1]; exact (Below.heap_alloc _ _ _ (by simp)).trans (World.alloc_heap_new w _)
 obtain ⟨ac,hac⟩ : ∃ ac:Act,ac = { a with defers := { target := .collected w.heap.size,args := #[] } :: a.defers } := ⟨_,rfl⟩
 have hact:ac.tmps = a.tmps := by rw [hac]
 have hsz1:W1.heap.size = w.heap.size + 2 := by rw [← hW1]; simp
 have hold:∀ b,b < w.heap.size→W1.heap[b]? = w.heap[b]? := by
  intro b hb
  rw [← hW1]
  exact (Below.heap_alloc _ _ _ (by simp; omega)).trans (Below.heap_alloc _ _ _ hb)
 have hsim1:Sim m w0 S0 Jo D Φ S s0 a W1 := hsim.grow (by rw [← hW1]; rfl) (by rw [← hW1]; rfl) (by rw [← hW1]; rfl) (by omega) hold (fun _ e => e) (fun _ e => .inl e) (fun b hb => by have := hsim.Slt b hb; omega)
 have hnew:∀ d∈a.defers,d.target ≠ Target.collected w.heap.size := by
  have key:∀ ds:List Deferred,jc6 D.low w ds→∀ d∈ds,d.target ≠ Target.collected w.heap.size := by
   intro ds
   induction ds with
   | nil => intro _ d hd; cases hd
   | cons d ds ih =>
    rintro ⟨⟨r,h1,_,h3,_⟩,h5⟩ d' hd'
    rcases List.mem_cons.1 hd' with rfl | hd'
    ·rw [h1]; intro e; injection e with e; subst e
     have := (Array.getElem?_eq_some_iff.1 h3).1; omega
    ·exact ih h5 d' hd'
  exact key _ hsim.defers
 have hsimc:Sim m w0 S0 Jo D Φ S s0 ac W1 := by
  subst hac
  exact ⟨⟨⟨w.heap.size,rfl,hlow,hK1,hnew⟩,hsim1.defers⟩,⟨hsim1.same.1,hlen _ _ _ hsim1.same.2⟩,hsim1.size,hsim1.ts,hsim1.hp,hsim1.fresh,hsim1.inj,hsim1.Slt,hsim1.Sold,hsim1.Snew,hsim1.frame,hsim1.io,hsim1.glob⟩
 refine ⟨l,[{ target := .collected w.heap.size,args := #[] }],W1,{ target := .fn (.func f0) caps,args := first ++ #[.func (.yield l) #[] #[]] },W1,f0,first ++ #[.func (.yield l) #[] #[]] ++ caps,W1,?_,?_,?_,?_,fun e => by simp [Fw,Fence.wide] at e,?_⟩
 ·rw [← hW1,hrec,hlw]; exact run_enterLoop_outer _ _ _ _ _
 ·simp only [resolve,hev]
  simp [go_sem]
 ·intro f' _; trivial
 ·simp [invoke,go_sem,juy (jF8 hf hprel)]
 have hl0:w0.heap.size≤l := by have := hsim.frame.size; omega
 have hSl:¬ S l := fun e => by have := hsim.Slt l e; omega
 have hloopc:∀ (r:Loop) arr ty fz,Obj.loop r ≠ Obj.cells arr ty fz := fun r arr ty fz e => by cases e
 have hloopd:∀ (r:Loop) z,Obj.loop r ≠ Obj.deferred z := fun r z e => by cases e
 refine (hI W1 S f0 first caps l (hprel.mono (fun _ e => e) (fun b hb => hold b (hsim.Slt b hb))) hsim1.Slt hsim1.glob
  (fun k S1 W => ∃ s Φc Sc,RngK (fun xs s K => xs.length = ps.toList.length∧AWp P m x (AEx.seq (AWp P m y (fun e s' => ∃ s1,Weak m (s'.mask bs) s1∧K e s1)) (fun _ _ => False)) (s.puts ps.toList xs)) Q (vs.drop k) s ∧
   Sim m w0 S0 Jo D Φc Sc s ac W∧(∀ b,S1 b→Sc b)∧W.heap[l]? = some (.loop (rec .ready none))∧¬ Sc l)
  (fun W => ∃ e s c Φc Sc,Q e s∧jGh e = some c∧Sim m w0 S0 Jo D Φc Sc s ac W∧W.heap[l]? = some (.loop (rec .done (some c)))∧¬ Sc l)
  ⟨s0,Φ,S,by simpa using hrun,hsimc,fun _ e => e,hL1,hSl⟩ ?_).mono ?_
 ·-- one round
  rintro k S1' W0 Wr S2 args xs ⟨s,Φc,Sc,hrk,hs,hsub,hl,hnl⟩ hfr h12 h21 h2lt hxs hsz hargs
  have hlt:l < W0.heap.size := (Array.getElem?_eq_some_iff.1 hl).1
  have hl' : Wr.heap[l]? = some (.loop (rec .ready none)) := (hfr.block l hlt (fun e => e)).trans hl
  have hs1:Sim m w0 S0 Jo D Φc (fun b => Sc b ∨ S2 b) s ac Wr := hs.grow hfr.os hfr.tape hfr.output hfr.size (fun b hb => hfr.block b hb (fun e => e)) (fun _ h => .inl h)
   (fun b hb => hb.elim .inl (fun hb => (h21 b hb).elim (fun h => .inl (hsub b h)) .inr)) (fun b hb => hb.elim (fun hb => Nat.lt_of_lt_of_le (hs.Slt b hb) hfr.size) (h2lt b))
  have hnl1:¬ (Sc l ∨ S2 l) := fun hb => hb.elim hnl (fun hb => (h21 l hb).elim (fun h => hnl (hsub l h)) (fun h => by omega))
  have hd:vs.drop k = xs :: vs.drop (k + 1) := by
   obtain ⟨hk,he⟩ := List.getElem?_eq_some_iff.1 hxs
   rw [List.drop_eq_getElem_cons hk,he]
  rw [hd] at hrk
  obtain ⟨hlen,hbody⟩ := hrk
  have hsz' : xs.length = args.toList.length := by simpa using hsz.symm
  have hr := jGe hs1 hps (ps := ps.toList) (xs := xs) (vs := args.toList) hsz' (fun i v hv => by
   have := (hargs i v hv).mono (Φ' := Φc) (S' := fun b => Sc b ∨ S2 b) (w' := Wr) (fun _ _ _ e => by cases e) (fun _ h => .inr h) (fun _ _ => rfl)
   rw [jbu] at this; exact this)
  have hyl := run_yield (P := P) (args := args) hl' (by rw [hrec]; show args.size = ps.size; rw [hsz,hlen]; simp)
  rw [hrec] at hyl
  dsimp only at hyl
  have htm:(fun (tmps:Array Value) (x:Tmp×Value) => match x with | (t,a) => tmps.setIfInBounds t a) = (fun (tmps:Array Value) (x:Nat×Value) => tmps.setIfInBounds x.1 x.2) := rfl
  rw [htm,jGi] at hyl
  rw [hact] at hr
  refine ⟨fn,_,assign,body,hyl,roundIn_of_wpIn hfn (hx l Wr _ (jbY Φc s) ⟨fun t => t ∉ bs,fun t => a.tmps.getD t undef,fun n _ => n = a.tmps.size,0,D.iob⟩ _ _ _ _ _ (Nat.zero_le _) (fun k hk hn => hn hk) ⟨_,_,hr⟩ hbody ?_)⟩
  rintro e s' a' w' hq ⟨Φ',S',h'⟩
  cases e with
  | exit id => exact hq.elim
  | ret => exact hq.elim
  | normal =>
   have ev1:Ev l (jbY Φc s) Wr w' (fun b => Sc b ∨ S2 b) S' (jbY Φ' s') := Ev.of_sim h'
   have hnlive:¬ jbY Φc s l := fun hL => by obtain ⟨⟨arr,ty,e⟩,_⟩ := jeJ hs1 hL; rw [hl'] at e; cases e
   have hl2:w'.heap[l]? = some (.loop (rec .ready none)) := (h'.frame.block l (Array.getElem?_eq_some_iff.1 hl').1 hnlive).trans hl'
   have hnl2:¬ S' l := fun hb => (ev1.new l hb).elim hnl1 (fun h => h.elim (fun h => by have := (Array.getElem?_eq_some_iff.1 hl').1; omega) hnlive)
   have hb2 := juJ (o' := .loop { rec .ready none with state := .busy }) h' hl2 (hloopc _) (hloopd _) hnl2
   have ev2:Ev l (jbY Φc s) Wr (w'.putObj l (.loop { rec .ready none with state := .busy })) (fun b => Sc b ∨ S2 b) S' (jbY Φ' s') := ev1.trans (Ev.put _)
   have hl3:(w'.putObj l (.loop { rec .ready none with state := .busy })).heap[l]? = some (.loop { rec .ready none with state := .busy }) := World.putObj_heap_same (Array.getElem?_eq_some_iff.1 hl2).1
   refine ⟨_,run_beginRound hl2 (by rw [hrec]),hy l _ _ _ ⟨fun t => t ∉ bs,fun t => a.tmps.getD t undef,fun n _ => n = a.tmps.size,0,D.iob⟩ _ _ _ _ _ (Nat.zero_le _) (fun k hk hn => hn hk) ⟨_,_,hb2⟩ hq ?_⟩
   rintro e s'' a'' w'' ⟨s1,hweak,hk⟩ ⟨Φ'',S'',h''⟩
   have ev3:Ev l (jbY Φ' s') _ w'' S' S'' (jbY Φ'' s'') := Ev.of_sim h''
   have hnlive3:¬ jbY Φ' s' l := fun hL => by obtain ⟨⟨arr,ty,e⟩,_⟩ := jeJ hb2 hL; rw [hl3] at e; cases e
   have hl4:w''.heap[l]? = some (.loop { rec .ready none with state := .busy }) := (h''.frame.block l (Array.getElem?_eq_some_iff.1 hl3).1 hnlive3).trans hl3
   have hnl4:¬ S'' l := fun hb => (ev3.new l hb).elim hnl2 (fun h => h.elim (fun h => by have := (Array.getElem?_eq_some_iff.1 hl3).1; omega) hnlive3)
   have fin:∀ jump:Option Code,(Instr.endRound l jump).run P w'' = .ok (.bool jump.isNone) (w''.putObj l (.loop (rec (if jump.isNone then .ready else .done) jump))) ∧
     (∃ Φ3,Sim m w0 S0 Jo D Φ3 S'' s1 ac (w''.putObj l (.loop (rec (if jump.isNone then .ready else .done) jump)))) ∧
     Keeps S2 Wr (w''.putObj l (.loop (rec (if jump.isNone then .ready else .done) jump))) ∧
     (w''.putObj l (.loop (rec (if jump.isNone then .ready else .done) jump))).heap[l]? = some (.loop (rec (if jump.isNone then .ready else .done) jump)) := by
    intro jump
    have hend := run_endRound (P := P) jump hl4
    have h4 := juJ (o' := .loop (rec (if jump.isNone then .ready else .done) jump)) h'' hl4 (hloopc _) (hloopd _) hnl4
    have ev4:Ev l (jbY Φc s) Wr (w''.putObj l (.loop (rec (if jump.isNone then .ready else .done) jump))) (fun b => Sc b ∨ S2 b) S'' (jbY Φ'' s'') := ev2.trans (ev3.trans (Ev.put _))
    rw [← hact] at h4
    have h5 := jGf hs1 hl' (hloopd _) hl0 ev4 h4
    have hend' : (Instr.endRound l jump).run P w'' = .ok (.bool jump.isNone) (w''.putObj l (.loop (rec (if jump.isNone then .ready else .done) jump))) := by
     rw [hrec] at hend; rw [hrec]; exact hend
    exact ⟨hend',hweak _ _ _ _ _ _ _ _ h5,jGg hs1 hnl1 ev4 (fun b hb => .inr hb),World.putObj_heap_same (Array.getElem?_eq_some_iff.1 hl4).1⟩
   have h2S:∀ b,S2 b→S'' b := fun b hb => (ev2.trans ev3).old b (.inr hb)
   cases e with
   | normal =>
    obtain ⟨f1,⟨Φ3,f2⟩,f3,f4⟩ := fin none
    exact ⟨_,_,f1,.inl ⟨rfl,⟨s1,Φ3,S'',hk,f2,h2S,f4,hnl4⟩,f3⟩⟩
   | exit id =>
    obtain ⟨f1,⟨Φ3,f2⟩,f3,f4⟩ := fin (some (.exit id))
    exact ⟨_,_,f1,.inr ⟨rfl,⟨.exit id,s1,.exit id,Φ3,S'',hk,rfl,f2,f4,hnl4⟩,f3⟩⟩
   | ret =>
    obtain ⟨f1,⟨Φ3,f2⟩,f3,f4⟩ := fin (some .ret)
    exact ⟨_,_,f1,.inr ⟨rfl,⟨.ret,s1,.ret,Φ3,S'',hk,rfl,f2,f4,hnl4⟩,f3⟩⟩
 ·-- jbg the iterator
  rintro e W2 ⟨⟨v,rfl⟩,W0,hJ,hfr⟩
  have leave:∀ {Φc:Plc} {Sc:Nat→Prop} {s:St} {st1:LoopState} {pe:Option Code},Sim m w0 S0 Jo D Φc Sc s ac W0→W0.heap[l]? = some (.loop (rec st1 pe))→st1 ≠ .busy→¬ Sc l →
    ∃ w3,(Instr.endLoop l).run P W2 = .ok pe w3∧SimE m w0 S0 Jo D s ac w3 := by
   intro Φc Sc s st1 pe hs hl hb hn
   have hlt:l < W0.heap.size := (Array.getElem?_eq_some_iff.1 hl).1
   have hl' : W2.heap[l]? = some (.loop (rec st1 pe)) := (hfr.block l hlt (fun e => e)).trans hl
   have hs1:Sim m w0 S0 Jo D Φc Sc s ac W2 := hs.grow hfr.os hfr.tape hfr.output hfr.size (fun b hb => hfr.block b hb (fun e => e)) (fun _ h => h) (fun b hb => .inl hb) (fun b hb => Nat.lt_of_lt_of_le (hs.Slt b hb) hfr.size)
   have hend := run_endLoop (P := P) hl' (by rw [hrec]; exact hb)
   rw [hrec] at hend
   exact ⟨_,hend,Φc,Sc,hs1.other hl' (hloopc _) (hloopd _) hn hl0⟩
  rcases hJ with ⟨S',s,Φc,Sc,hrk,hs,_,hl,hn⟩ | ⟨e,s,c,Φc,Sc,hq,hj,hs,hl,hn⟩
  ·rw [List.drop_length] at hrk
   obtain ⟨w3,h1,h2⟩ := leave hs hl (by simp) hn
   refine ⟨none,w3,h1,?_⟩
   have := hQ .normal s ac w3 hrk h2
   rw [hac] at this; exact this
  ·obtain ⟨w3,h1,h2⟩ := leave hs hl (by simp) hn
   refine ⟨some c,w3,h1,?_⟩
   have := hQ e s ac w3 hq h2
   rw [hac] at this
   cases e with
   | normal => cases hj
   | exit id => cases hj; exact wpIn_exit this
   | ret => cases hj; exact wpIn_ret this

omit [Laid] in
theorem juK {id:Nat} {ops:Array Oper} {d:Bool} {D:Bs} (hD:∀ k∈jcz (.region id ops d),¬ D.keep k):∀ o∈ops.toList,∀ k,o.dst = some k→¬ D.keep k :=
 fun o ho k hk => hD k (List.mem_filterMap.2 ⟨o,ho,hk⟩)

theorem jhB {P:Program} {sites:List Nat}:∀ (c:Code) (rf:Bool) (ac:ACode) (m:Nat) (w0:World) (S0 Jo:Nat→Prop) (D:Bs) (ro:Option Nat) (Q:AEx→St→Prop) (Q' : Exit→Act→World→Prop) (st:St) (a:Act) (w:World),
  (rf = true→ro = none∧∀ n ds ds',D.len n ds→D.len n ds')→D.low≤w0.heap.size→jaT P sites rf c = some ac→(∀ k∈jcz c,¬ D.keep k)→SimE m w0 S0 Jo D st a w→AWp P m ac Q st →
  (∀ e st a w,Q e st→SimE m w0 S0 Jo D st a w→Q' e.to a w)→c.wpIn (Fw ro) 0 P Q' a w := by
 intro c
 induction c with
 | skip =>
  intro rf ac m w0 S0 Jo D ro Q Q' st a w hro hlow hc hD h hw hQ
  simp only [jaT,sJ] at hc; subst hc
  exact wpIn_skip (hQ .normal st a w hw h)
 | region id ops d =>
  intro rf ac m w0 S0 Jo D ro Q Q' st a w hro hlow hc hD h hw hQ
  cases d with
  | true =>
   simp only [jaT,Option.map_eq_some_iff] at hc
   obtain ⟨⟨il,pairs⟩,hil,rfl⟩ := hc
   obtain ⟨fz,hfz,hw⟩ := hw
   obtain ⟨Φ,S,hsim⟩ := h
   obtain ⟨S2,_,_,g3⟩ := jc7 fz S st hsim hfz
   exact juD hil (juK hD) (fun st a w h1 h2 => hQ .normal st a w h1 h2) ⟨Φ,S2,g3⟩ hw
  | false =>
   simp only [jaT,Option.map_eq_some_iff] at hc
   obtain ⟨il,hil,rfl⟩ := hc
   exact wpIn_region_list (juA (fun st a w h1 h2 => hQ .normal st a w h1 h2) ops.toList il st a w (juK hD) hil h hw)
 | seq x y ihx ihy =>
  intro rf ac m w0 S0 Jo D ro Q Q' st a w hro hlow hc hD h hw hQ
  simp only [jaT] at hc
  split at hc
  ·rename_i ax ay hx hy
   simp only [sJ] at hc; subst hc
   have hDx:∀ k∈jcz x,¬ D.keep k := fun k hk => hD k (List.mem_append_left _ hk)
   have hDy:∀ k∈jcz y,¬ D.keep k := fun k hk => hD k (List.mem_append_right _ hk)
   refine wpIn_seq (ihx rf ax _ _ _ _ _ _ _ _ st a w hro hlow hx hDx h hw ?_)
   intro e s a w h1 h2
   cases e with
   | normal => exact ihy rf ay _ _ _ _ _ _ Q Q' s a w hro hlow hy hDy h2 h1 hQ
   | exit id => exact hQ (.exit id) s a w h1 h2
   | ret => exact hQ .ret s a w h1 h2
  ·cases hc
 | cond o x y ihx ihy =>
  intro rf ac m w0 S0 Jo D ro Q Q' st a w hro hlow hc hD h hw hQ
  simp only [jaT] at hc
  split at hc
  ·rename_i ax ay hx hy
   simp only [sJ] at hc; subst hc
   simp only [AWp] at hw
   split at hw
   ·rename_i b hb
    have hev:a.eval o = .bool b := by
     obtain ⟨Φ,S,hsim⟩ := h
     have := jdi hsim o
     rw [hb] at this; exact jcJ this
    refine wpIn_cond hev ?_
    split at hw
    ·rename_i e; subst e; exact ihx rf ax _ _ _ _ _ _ Q Q' st a w hro hlow hx (fun k hk => hD k (List.mem_append_left _ hk)) h hw hQ
    ·rename_i e
     have e' : b = false := by simpa using e
     subst e'; exact ihy rf ay _ _ _ _ _ _ Q Q' st a w hro hlow hy (fun k hk => hD k (List.mem_append_right _ hk)) h hw hQ
   ·rename_i n hb
    obtain ⟨b,hev,hn⟩ : ∃ b,a.eval o = .bool b∧(b = true→n = 0) := by
     obtain ⟨Φ,S,hsim⟩ := h
     have := jdi hsim o
     rw [hb] at this
     exact jEP this
    refine wpIn_cond hev ?_
    cases b with
    | true => exact ihx rf ax _ _ _ _ _ _ Q Q' st a w hro hlow hx (fun k hk => hD k (List.mem_append_left _ hk)) h (hw.1 (hn rfl)) hQ
    | false => exact ihy rf ay _ _ _ _ _ _ Q Q' st a w hro hlow hy (fun k hk => hD k (List.mem_append_right _ hk)) h hw.2 hQ
   ·exact hw.elim
  ·cases hc
 | block id x ih =>
  intro rf ac m w0 S0 Jo D ro Q Q' st a w hro hlow hc hD h hw hQ
  simp only [jaT,Option.map_eq_some_iff] at hc
  obtain ⟨ax,hx,rfl⟩ := hc
  refine wpIn_block (ih rf ax _ _ _ _ _ _ _ _ st a w hro hlow hx hD h hw ?_)
  intro e s a w h1 h2
  cases e with
  | normal => exact hQ .normal s a w h1 h2
  | exit j =>
   simp only [AEx.blk] at h1
   simp only [AEx.to,Exit.inBlock]
   split at h1
   ·rename_i e; rw [if_pos e]; exact hQ .normal s a w h1 h2
   ·rename_i e; rw [if_neg e]; exact hQ (.exit j) s a w h1 h2
  | ret => exact hQ .ret s a w h1 h2
 | loop x ih =>
  intro rf ac m w0 S0 Jo D ro Q Q' st a w hro hlow hc hD h hw hQ
  simp only [jaT,Option.map_eq_some_iff] at hc
  obtain ⟨ax,hx,rfl⟩ := hc
  obtain ⟨I,μ,⟨s0,hs0,hI⟩,hr⟩ := hw
  have weak:∀ s s',Weak m s s'→∀ a w,SimE m w0 S0 Jo D s a w→SimE m w0 S0 Jo D s' a w := fun s s' hws a w ⟨Φ,S,hsim⟩ => (hws _ _ _ _ _ _ _ _ hsim).imp fun Φ' h' => ⟨S,h'⟩
  have weakF:∀ s s',jfp m s s'→∀ a w,SimE m w0 S0 Jo D s a w→SimE m w0 S0 Jo D s' a w := fun s s' hws a w ⟨Φ,S,hsim⟩ => hws _ _ _ _ _ _ _ _ hsim
  let J:Nat→Act→World→Prop := fun n a w => ∃ s,I s∧μ s = n∧SimE m w0 S0 Jo D s a w
  refine wpIn_loop (fun a w => ∃ n,J n a w) (fun a w => leastOf (fun n => J n a w)) ⟨_,s0,hI,rfl,weakF _ _ hs0 a w h⟩ ?_
  intro a w hJ
  obtain ⟨⟨s,hIs,hμ,hsim⟩,hleast⟩ := leastOf_spec hJ
  refine ih rf ax _ _ _ _ _ _ _ _ s a w hro hlow hx hD hsim (hr s hIs) ?_
  intro e s' a' w' h1 h2
  cases e with
  | normal =>
   obtain ⟨s1,k1,k2,k3⟩ := h1
   have hJ1:J (μ s1) a' w' := ⟨s1,k2,rfl,weak _ _ k1 a' w' h2⟩
   refine ⟨⟨_,hJ1⟩,?_⟩
   have := (leastOf_spec (p := fun n => J n a' w') ⟨_,hJ1⟩).2 _ hJ1
   omega
  | exit j => exact hQ (.exit j) s' a' w' h1 h2
  | ret => exact hQ .ret s' a' w' h1 h2
 | exit id =>
  intro rf ac m w0 S0 Jo D ro Q Q' st a w hro hlow hc hD h hw hQ
  simp only [jaT,sJ] at hc; subst hc
  exact wpIn_exit (hQ (.exit id) st a w hw h)
 | ret =>
  intro rf ac m w0 S0 Jo D ro Q Q' st a w hro hlow hc hD h hw hQ
  simp only [jaT,sJ] at hc; subst hc
  exact wpIn_ret (hQ .ret st a w hw h)
 | rangeFunc g ps x y ihx ihy =>
  intro rf ac m w0 S0 Jo D ro Q Q' st a w hro hlow hc hD h hw hQ
  cases rf with
  | false => simp [jaT] at hc
  | true =>
   obtain ⟨e,hlen⟩ := hro rfl
   subst e
   simp only [jaT] at hc
   split at hc
   ·rename_i ax ay hx hy
    simp only [sJ] at hc; subst hc
    refine jGj (fun l w0 S0 Jo D Q Q' st a w hlow hD h hw hQ => ihx false ax _ _ _ _ _ (some l) Q Q' st a w (fun e => nomatch e) hlow hx (fun k hk => hD k (List.mem_append_right _ (List.mem_append_left _ hk))) h hw hQ)
     (fun l w0 S0 Jo D Q Q' st a w hlow hD h hw hQ => ihy false ay _ _ _ _ _ (some l) Q Q' st a w (fun e => nomatch e) hlow hy (fun k hk => hD k (List.mem_append_right _ (List.mem_append_right _ hk))) h hw hQ) (fun p hp => List.mem_append_left _ hp) h hlow hlen hw hQ
   ·cases hc
 | scope => intro rf ac m w0 S0 Jo D ro Q Q' st a w hro hlow hc; cases rf <;> simp [jaT] at hc
 | label => intro rf ac m w0 S0 Jo D ro Q Q' st a w hro hlow hc; cases rf <;> simp [jaT] at hc
 | goto => intro rf ac m w0 S0 Jo D ro Q Q' st a w hro hlow hc; cases rf <;> simp [jaT] at hc
 | refuse => intro rf ac m w0 S0 Jo D ro Q Q' st a w hro hlow hc; cases rf <;> simp [jaT] at hc
end Go.Mx
