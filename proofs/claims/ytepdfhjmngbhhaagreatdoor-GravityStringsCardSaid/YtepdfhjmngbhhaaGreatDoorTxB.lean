/- Layers of the walk: abstract values, operations, calls, loops, and what they do. No condition. -/
import Derived.Test.YtepdfhjmngbhhaaGreatDoorTxA
namespace Go.Mx
variable [Laid]

structure TSt where
 ts:Nat→TV
 c:Nat→TC
 v:Nat→Nat
 w:Nat→Nat

def LRel (E:Env) (cs:List TV) (vs:List V):Prop := vs.length = cs.length∧∀ (i:Nat) (c:TV) (v:V),cs[i]? = some c→vs[i]? = some v→TRel E c v

def bst:Bool→BSt
 | true => .live
 | false => .frozen
def BOk (E:Env) (s:Nat):TC→Option Blk→Prop
 | .dead,_ => True
 | .cells live cs,some b => b.ver = E.vr s∧b.st.ok = true∧b.st = bst live∧LRel E cs b.cs
 | .dyn live t l,some b => b.ver = E.vr s∧b.st.ok = true∧b.st = bst live∧E.ln s = l.length∧∃ es:List (List Pv),b.cs = es.flatten.map .p∧LeLL es (List.map t.enc l)
 | _,none => False

structure Conc (nt ns:Nat) (E:Env) (T:TSt) (st:St):Prop where
 lt:st.ts.length = nt
 lh:st.hp.length = ns
 ts:∀ n,TRel E (T.ts n) (st.get (.t n))
 c:∀ s,BOk E s (T.c s) st.hp[s]?
 v0:∀ s,ns≤s→T.v s = 0

section
variable {E:Env}

omit [Laid] in
theorem LRel.nil:LRel E [] [] := ⟨rfl,by simp⟩
omit [Laid] in
theorem LRel.get {cs:List TV} {vs:List V} (h:LRel E cs vs) {i:Nat} {c:TV} (hc:cs[i]? = some c):∃ v,vs[i]? = some v∧TRel E c v := by
 obtain ⟨v,hv⟩ := get_of_len h.1.symm hc
 exact ⟨v,hv,h.2 i c v hc hv⟩
omit [Laid] in
theorem LRel.drop {cs:List TV} {vs:List V} (h:LRel E cs vs) (n:Nat):LRel E (cs.drop n) (vs.drop n) := by
 refine ⟨by simp [h.1],fun i c v hc hv => ?_⟩
 rw [List.getElem?_drop] at hc hv
 exact h.2 _ c v hc hv
omit [Laid] in
theorem LRel.take {cs:List TV} {vs:List V} (h:LRel E cs vs) (n:Nat):LRel E (cs.take n) (vs.take n) := by
 refine ⟨by simp [h.1],fun i c v hc hv => ?_⟩
 rw [List.getElem?_take] at hc hv
 split at hc
 ·rename_i hlt
  rw [if_pos hlt] at hv
  exact h.2 _ c v hc hv
 ·cases hc
omit [Laid] in
theorem LRel.set {cs:List TV} {vs:List V} (h:LRel E cs vs) {c:TV} {v:V} (hc:TRel E c v) (o:Nat):LRel E (cs.set o c) (vs.set o v) := by
 refine ⟨by simp [h.1],fun i c' v' h1 h2 => ?_⟩
 rw [List.getElem?_set] at h1 h2
 by_cases e:o = i
 ·subst e
  rw [if_pos rfl] at h1 h2
  split at h1
  ·split at h2
   ·simp only [sJ] at h1 h2; subst h1 h2; exact hc
   ·cases h2
  ·cases h1
 ·rw [if_neg e] at h1 h2; exact h.2 i c' v' h1 h2
omit [Laid] in
theorem LRel.wr:∀ {xs:List TV} {ys:List V} {cs:List TV} {vs:List V},LRel E xs ys→LRel E cs vs→∀ o,LRel E (wr cs o xs) (wr vs o ys)
 | [],[],_,_,_,h,_ => h
 | x :: xs,y :: ys,cs,vs,hx,h,o => by
  rw [Go.Mx.wr,Go.Mx.wr]
  refine LRel.wr ⟨by simpa using hx.1,fun i c v h1 h2 => hx.2 (i + 1) c v (by simpa using h1) (by simpa using h2)⟩ (h.set (hx.2 0 x y rfl rfl) o) (o + 1)
 | [],_ :: _,_,_,hx,_,_ => by have := hx.1; simp at this
 | _ :: _,[],_,_,hx,_,_ => by have := hx.1; simp at this
omit [Laid] in
theorem LRel.map {α:Type} {f:α→TV} {g:α→V} {l:List α} (h:∀ x∈l,TRel E (f x) (g x)):LRel E (l.map f) (l.map g) := by
 refine ⟨by simp,fun i c v h1 h2 => ?_⟩
 rw [List.getElem?_map] at h1 h2
 cases hx:l[i]? with
 | none => simp [hx] at h1
 | some x =>
  simp only [hx,Option.map_some,sJ] at h1 h2; subst h1 h2
  exact h x (List.mem_of_getElem? hx)
omit [Laid] in
theorem LRel.one {c:TV} {v:V} (h:TRel E c v):LRel E [c] [v] := ⟨rfl,fun i c' v' h1 h2 => by
 match i with
 | 0 => simp at h1 h2; subst h1 h2; exact h
 | i + 1 => simp at h1⟩
omit [Laid] in
theorem LRel.append {a b:List TV} {x y:List V} (h1:LRel E a x) (h2:LRel E b y):LRel E (a ++ b) (x ++ y) := by
 refine ⟨by simp [h1.1,h2.1],fun i c v hc hv => ?_⟩
 rw [List.getElem?_append] at hc hv
 by_cases hi:i < a.length
 ·rw [if_pos hi] at hc; rw [if_pos (by rw [h1.1]; exact hi)] at hv; exact h1.2 i c v hc hv
 ·rw [if_neg hi] at hc; rw [if_neg (by rw [h1.1]; exact hi),h1.1] at hv; exact h2.2 _ c v hc hv
omit [Laid] in
theorem LRel.agg {cs:List TV} {vs:List V} (h:LRel E cs vs):TRel E (.agg cs) (.agg vs) := .agg cs vs h.1 h.2
omit [Laid] in
theorem TRel.agg' {cs:List TV} {v:V} (h:TRel E (.agg cs) v):∃ vs,v = .agg vs∧LRel E cs vs := h.inv_agg

def ofP:Pv→Option TV
 | .int k n => some (.i k n)
 | .bool b => some (.b b)
 | _ => none
omit [Laid] in
theorem ofP_pt {p:Pv} {c:TV} (h:ofP p = some c):PT c p := by
 unfold ofP at h
 split at h
 ·simp only [sJ] at h; subst h; exact .i
 ·simp only [sJ] at h; subst h; exact .b
 ·cases h
def ofC1:V→TV
 | .p (.int k n) => .i k n
 | .p (.bool b) => .b b
 | .p (.str s) => .s s
 | .p (.sl _ [] true) => .nil
 | .clo f [] => .clo f []
 | .p (.fn f []) => .fn f []
 | .ipt ps => match optAll ofP ps with
  | some cs => .ipt cs
  | none => .und
 | _ => .und
def ofC:V→TV
 | .agg cs => .agg (cs.map ofC1)
 | v => ofC1 v
omit [Laid] in
theorem ofC1_rel (v:V):TRel E (ofC1 v) v := by
 unfold ofC1
 split
 ·exact .int
 ·exact .bool
 ·exact .ofCan rfl (.str _)
 ·exact .ofCan rfl (.sl' (.inl rfl) (fun e => e) ⟨rfl,by simp⟩)
 ·exact .clo _ [] [] rfl (by simp)
 ·exact .ofCan rfl (.fn _ _ _ (fun _ i e e' h => by simp at h) rfl (fun i e e' h => by simp at h) (fun i e e' j x x' h => by simp at h))
 ·rename_i ps
  split
  ·rename_i cs hcs
   obtain ⟨h1,h2⟩ := optAll_get ps cs hcs
   refine .ipt _ _ (by omega) fun i c p hc hp => ?_
   obtain ⟨q,hq,hqc⟩ := h2 i c hc
   rw [hp] at hq; injection hq with hq; subst hq
   exact ofP_pt hqc
  ·exact .und _
 ·exact .und _
omit [Laid] in
theorem ofC_rel (v:V):TRel E (ofC v) v := by
 unfold ofC
 split
 ·rename_i cs
  exact .agg _ _ (by simp) (fun i c v h1 h2 => by
   rw [List.getElem?_map,h2] at h1
   simp only [Option.map_some,sJ] at h1; subst h1
   exact ofC1_rel v)
 ·exact ofC1_rel v

def TSt.raw (T:TSt):Opd→TV
 | .t n => T.ts n
 | .c v => ofC v
omit [Laid] in
theorem raw_rel {nt ns:Nat} {T:TSt} {st:St} (h:Conc nt ns E T st):∀ x,TRel E (T.raw x) (st.get x)
 | .t n => h.ts n
 | .c v => ofC_rel v

def unopt:TV→TV
 | .opt _ _ _ _ => .und
 | .fs t l => .sl t l
 | v => v
def unoptA:TV→TV
 | .opt _ _ _ _ => .und
 | v => v
def unfs:TV→TV
 | .fs t l => .sl t l
 | v => v
omit [Laid] in
theorem unfs_rel {c:TV} {v:V} (h:TRel E c v):TRel E (unfs c) v := by
 unfold unfs
 split
 ·cases h with | pure _ p h => exact .pure _ _ h.fs_sl
 ·exact h
omit [Laid] in
theorem unopt_rel {c:TV} {v:V} (h:TRel E c v):TRel E (unopt c) v := by
 unfold unopt
 split
 ·exact .und _
 ·cases h with | pure _ p h => exact .pure _ _ h.fs_sl
 ·exact h
omit [Laid] in
theorem TRel.inv_fs {t:Ty} {l:List t.den} {v:V} (h:TRel E (.fs t l) v):∃ k es,v = .p (.sl k es true)∧(es = [] ∨ k = t.n)∧LeLL es (List.map t.enc l) := by
 cases h with
 | pure _ p h =>
  obtain ⟨k,es,rfl,h1,h2⟩ := h.inv_fs
  exact ⟨k,es,rfl,h1,h2⟩
omit [Laid] in
theorem unoptA_rel {c:TV} {v:V} (h:TRel E c v):TRel E (unoptA c) v := by
 unfold unoptA
 split
 ·exact .und _
 ·exact h

def rdG (g:Nat) (want:Bool):TV→TV
 | .opt g' b' want' v => if g' = g∧want' = want then v else .opt g' b' want' v
 | v => v
def rdGP (g:Nat) (b want:Bool):List TV→List Prop
 | [] => []
 | .opt g' b' want' _ :: r => if g' = g∧want' = want then (b' = b) :: rdGP g b want r else rdGP g b want r
 | _ :: r => rdGP g b want r

def cellsT:TV→Option (List TV)
 | .agg cs => some cs
 | .tup _ | .opt _ _ _ _ | .und | .no | .nb _ => none
 | v => some [v]

omit [Laid] in
theorem cellsT_rel {c:TV} {v:V} (h:TRel E c v) {cs:List TV} (hc:cellsT c = some cs):∃ vs,cellsV v = some vs∧LRel E cs vs := by
 cases h with
 | agg _ vs hn h => simp only [cellsT,sJ] at hc; subst hc; exact ⟨vs,rfl,hn,h⟩
 | pure _ p h =>
  have:cellsT c = some [c] := by obtain ⟨q,h,_⟩ := h; cases c <;> simp_all [can,cellsT]
  rw [this] at hc; simp only [sJ] at hc; subst hc
  exact ⟨[.p p],rfl,.one (.pure c p h)⟩
 | tup | opt | und | no | nb => cases hc
 | ptr s o ds h => simp only [cellsT,sJ] at hc; subst hc; exact ⟨_,rfl,.one (.ptr s o ds h)⟩
 | pd s t i j h0 h1 => simp only [cellsT,sJ] at hc; subst hc; exact ⟨_,rfl,.one (.pd s t i j h0 h1)⟩
 | ipt cs ps hn h => simp only [cellsT,sJ] at hc; subst hc; exact ⟨_,rfl,.one (.ipt cs ps hn h)⟩
 | own s t => simp only [cellsT,sJ] at hc; subst hc; exact ⟨_,rfl,.one (.own s t)⟩
 | vc s o n k => simp only [cellsT,sJ] at hc; subst hc; exact ⟨_,rfl,.one (.vc s o n k)⟩
 | vd s t lo n h0 h1 h2 => simp only [cellsT,sJ] at hc; subst hc; exact ⟨_,rfl,.one (.vd s t lo n h0 h1 h2)⟩
 | clo f cs vs hn h => simp only [cellsT,sJ] at hc; subst hc; exact ⟨_,rfl,.one (.clo f cs vs hn h)⟩

def fillT:List TV→List (Nat×Nat×TV)→Option (List TV)
 | cs,[] => some cs
 | cs,(o,n,v) :: r =>
  match cellsT v with
  | some vs => if vs.length = n∧o + n≤cs.length then fillT (wr cs o vs) r else none
  | none => none

omit [Laid] in
theorem fillT_rel {α:Type} {rd:α→TV} {g:α→V} (hrd:∀ x,TRel E (rd x) (g x)):∀ {parts:List (Nat×Nat×α)} {cs:List TV} {vs:List V} {r:List TV},LRel E cs vs→fillT cs (parts.map fun p => (p.1,p.2.1,rd p.2.2)) = some r →
  ∃ r',fillV vs (parts.map fun p => (p.1,p.2.1,g p.2.2)) = some r'∧LRel E r r'
 | [],cs,vs,r,h,hr => by
  simp only [List.map_nil,fillT,sJ] at hr; subst hr
  exact ⟨vs,rfl,h⟩
 | (o,n,x) :: parts,cs,vs,r,h,hr => by
  simp only [List.map_cons,fillT] at hr
  split at hr
  ·rename_i xs hxs
   split at hr
   ·rename_i hc
    obtain ⟨ys,h1,h2⟩ := cellsT_rel (hrd x) hxs
    obtain ⟨r',h3,h4⟩ := fillT_rel hrd (h2.wr h o) hr
    refine ⟨r',?_,h4⟩
    simp only [List.map_cons,fillV,h1]
    rw [if_pos ⟨by rw [h2.1]; exact hc.1,by rw [h.1]; exact hc.2⟩]
    exact h3
   ·cases hr
  ·cases hr

def intsT (k:IntKind):List TV→Option (List Int)
 | [] => some []
 | .i k' n :: r => match decide (k' = k),intsT k r with
  | true,some l => some (n :: l)
  | _,_ => none
 | _ :: _ => none
def boolsT:List TV→Option (List Bool)
 | [] => some []
 | .b x :: r => match boolsT r with
  | some l => some (x :: l)
  | none => none
 | _ :: _ => none
def slsT (t:Ty):List TV→Option (List (List t.den))
 | [] => some []
 | .sl t' l :: r => match castL t' t l,slsT t r with
  | some l,some ls => some (l :: ls)
  | _,_ => none
 | _ :: _ => none
def selT (cs:List TV) (i:Int):Option TV :=
 match cs with
 | .i k _ :: _ => match intsT k cs with
  | some l => some (.i k (l.getD i.toNat 0))
  | none => none
 | .b _ :: _ => match boolsT cs with
  | some l => some (.b (l.getD i.toNat false))
  | none => none
 | .sl t _ :: _ => match slsT t cs with
  | some l => some (.sl t (l.getD i.toNat []))
  | none => none
 | _ => none

omit [Laid] in
theorem intsT_get {k:IntKind}:∀ {cs:List TV} {l:List Int} {j:Nat} {c:TV},intsT k cs = some l→cs[j]? = some c→c = .i k (l.getD j 0)
 | [],_,_,_,_,hc => by simp at hc
 | x :: r,l,j,c,h,hc => by
  cases x with
  | i k' n =>
   simp only [intsT] at h
   split at h
   ·rename_i l' hk hl
    simp only [sJ] at h; subst h
    have hk := of_decide_eq_true hk; subst hk
    match j with
    | 0 => simp at hc; subst hc; simp
    | j + 1 => simpa using intsT_get hl (by simpa using hc)
   ·cases h
  | _ => simp [intsT] at h
omit [Laid] in
theorem boolsT_get:∀ {cs:List TV} {l:List Bool} {j:Nat} {c:TV},boolsT cs = some l→cs[j]? = some c→c = .b (l.getD j false)
 | [],_,_,_,_,hc => by simp at hc
 | x :: r,l,j,c,h,hc => by
  cases x with
  | b x =>
   simp only [boolsT] at h
   split at h
   ·rename_i l' hl
    simp only [sJ] at h; subst h
    match j with
    | 0 => simp at hc; subst hc; simp
    | j + 1 => simpa using boolsT_get hl (by simpa using hc)
   ·cases h
  | _ => simp [boolsT] at h
omit [Laid] in
theorem slsT_get {t:Ty}:∀ {cs:List TV} {l:List (List t.den)} {j:Nat} {c:TV},slsT t cs = some l→cs[j]? = some c→c = .sl t (l.getD j [])
 | [],_,_,_,_,hc => by simp at hc
 | x :: r,l,j,c,h,hc => by
  cases x with
  | sl t' x =>
   simp only [slsT] at h
   split at h
   ·rename_i l1 l' hk hl
    simp only [sJ] at h; subst h
    obtain ⟨e,he⟩ := castL_eq hk
    subst e; subst he
    match j with
    | 0 => simp at hc; subst hc; simp
    | j + 1 => simpa using slsT_get hl (by simpa using hc)
   ·cases h
  | _ => simp [slsT] at h
omit [Laid] in
theorem selT_get {cs:List TV} {i:Int} {c d:TV} (h:selT cs i = some c) (hd:cs[i.toNat]? = some d):d = c := by
 unfold selT at h
 split at h
 ·split at h
  ·rename_i l hl
   simp only [sJ] at h; subst h
   exact intsT_get hl hd
  ·cases h
 ·split at h
  ·rename_i l hl
   simp only [sJ] at h; subst h
   exact boolsT_get hl hd
  ·cases h
 ·split at h
  ·rename_i l hl
   simp only [sJ] at h; subst h
   exact slsT_get hl hd
  ·cases h
 ·cases h

def cellAt (cs:List TV):Nat→List (Int×Nat×Nat)→Option TV
 | o,[] => cs[o]?
 | o,(i,k,len) :: r => match optAll (fun a => cellAt cs (o + a * k) r) (List.range len) with
  | some l => selT l i
  | none => none
omit [Laid] in
theorem optAll_at {α β:Type} {f:α→Option β}:∀ {l:List α} {r:List β} {i:Nat} {x:α},optAll f l = some r→l[i]? = some x→∃ y,r[i]? = some y∧f x = some y
 | [],_,_,_,_,hx => by simp at hx
 | a :: l,r,i,x,h,hx => by
  simp only [optAll] at h
  split at h
  ·rename_i y s hy hs
   simp only [sJ] at h; subst h
   match i with
   | 0 => simp at hx; subst hx; exact ⟨y,rfl,hy⟩
   | i + 1 => simpa using optAll_at hs (by simpa using hx)
  ·cases h
omit [Laid] in
theorem cellAt_get {cs:List TV}:∀ {ds:List (Int×Nat×Nat)} {o:Nat} {c:TV},cellAt cs o ds = some c→dsOk ds→cs[o + dsOff ds]? = some c
 | [],o,c,h,_ => h
 | (i,k,len) :: r,o,c,h,hd => by
  simp only [cellAt] at h
  split at h
  ·rename_i l hl
   obtain ⟨⟨h0,h1⟩,hr⟩ := hd
   have hlt:i.toNat < len := by omega
   obtain ⟨y,hy,hf⟩ := optAll_at (i := i.toNat) (x := i.toNat) hl (by simp [hlt])
   have := selT_get h hy
   subst this
   have := cellAt_get hf hr
   rw [dsOff,← Nat.add_assoc]; exact this
  ·cases h

omit [Laid] in
theorem flat_get2 {k:Nat}:∀ {es:List (List Pv)} {i j:Nat} {e:List Pv},(∀ e∈es,e.length = k)→es[i]? = some e→j < k→es.flatten[i * k + j]? = e[j]?
 | [],_,_,_,_,h,_ => by simp at h
 | x :: es,i,j,e,hk,h,hj => by
  have hx:x.length = k := hk x (by simp)
  rw [List.flatten_cons,List.getElem?_append]
  match i with
  | 0 =>
   simp at h; subst h
   rw [if_pos (by omega)]; simp
  | i + 1 =>
   rw [if_neg (by rw [hx,Nat.succ_mul]; omega)]
   have:(i + 1) * k + j - x.length = i * k + j := by rw [hx,Nat.succ_mul]; omega
   rw [this]
   exact flat_get2 (fun e he => hk e (by simp [he])) (by simpa using h) hj

omit [Laid] in
theorem lell_len {t:Ty} {l:List t.den} {es:List (List Pv)} (h:LeLL es (List.map t.enc l)):∀ e∈es,e.length = t.n := by
 intro e he
 obtain ⟨i,hi⟩ := List.mem_iff_getElem?.1 he
 obtain ⟨e',he'⟩ := get_of_len h.1.symm hi
 rw [← (h.2 i e e' hi he').1]
 rw [List.getElem?_map] at he'
 cases hx:l[i]? with
 | none => simp [hx] at he'
 | some x => simp only [hx,Option.map_some,sJ] at he'; subst he'; exact t.enc_len x
omit [Laid] in
theorem lell_n {t:Ty} {l:List t.den} {es:List (List Pv)} (h:LeLL es (List.map t.enc l)):es.length = l.length := by simpa using h.1.symm
omit [Laid] in
theorem lell_get {t:Ty} {l:List t.den} {es:List (List Pv)} (h:LeLL es (List.map t.enc l)) {i:Nat} {e:List Pv} (he:es[i]? = some e):LeL e (t.enc (l.getD i t.dflt)) := by
 have hlt:i < l.length := by rw [← lell_n h]; exact (List.getElem?_eq_some_iff.1 he).1
 refine h.2 i e _ he ?_
 rw [List.getElem?_map,List.getD,List.getElem?_eq_getElem hlt]; rfl

omit [Laid] in
theorem dyn_cells {t:Ty} {l:List t.den} {es:List (List Pv)} (h:LeLL es (List.map t.enc l)) {i:Nat} (hi:i < l.length):LRel E (explode t (l.getD i t.dflt)) (((es.flatten.map V.p).drop (i * t.n)).take t.n) := by
 have hlt:i < es.length := by rw [lell_n h]; exact hi
 have he := List.getElem?_eq_getElem hlt
 have hk := lell_len h
 have hle := lell_get h he
 have hlen:es[i].length = t.n := hk _ (List.getElem_mem hlt)
 have hcell:∀ j,j < t.n→(((es.flatten.map V.p).drop (i * t.n)).take t.n)[j]? = (es[i][j]?).map V.p := by
  intro j hj
  rw [List.getElem?_take,if_pos hj,List.getElem?_drop,List.getElem?_map,flat_get2 hk he hj]
 refine ⟨?_,fun j c v hc hv => ?_⟩
 ·rw [explode_len,List.length_take,List.length_drop,List.length_map,flat_len es hk]
  have:(i + 1) * t.n≤es.length * t.n := Nat.mul_le_mul_right _ hlt
  rw [Nat.succ_mul] at this
  omega
 ·have hj:j < t.n := by have := (List.getElem?_eq_some_iff.1 hc).1; rwa [explode_len] at this
  rw [hcell j hj] at hv
  cases hq:es[i][j]? with
  | none => rw [hq] at hv; cases hv
  | some q =>
   rw [hq] at hv
   simp only [Option.map_some,sJ] at hv; subst hv
   exact .pure c q (explode_pt hle hc hq)

def loadT (look:Nat→TC) (n:Option Nat):TV→Option TV
 | .ptr s o ds => match look s with
  | .cells _ cs => match n with
   | none => cellAt cs o ds
   | some n => if 0 < n then match optAll (fun j => cellAt cs (o + j) ds) (List.range n) with
    | some l => some (.agg l)
    | none => none
    else none
  | _ => none
 | .pd s t i j => match look s with
  | .dyn _ t' l => if t'.n = t.n then part?T (explode t' (l.getD i.toNat t'.dflt)) j n else none
  | _ => none
 | .ipt cs => part?T cs 0 n
 | _ => none
 where
 part?T (cs:List TV) (j:Nat):Option Nat→Option TV
  | none => cs[j]?
  | some n => if j + n≤cs.length then some (.agg ((cs.drop j).take n)) else none

omit [Laid] in
theorem part_rel {cs:List TV} {vs:List V} (h:LRel E cs vs) {j:Nat} {n:Option Nat} {c:TV} (hc:loadT.part?T cs j n = some c) :
  match n with
  | none => ∃ v,vs[j]? = some v∧TRel E c v
  | some n => j + n≤vs.length∧TRel E c (.agg ((vs.drop j).take n)) := by
 cases n with
 | none => exact h.get hc
 | some n =>
  simp only [loadT.part?T] at hc
  split at hc
  ·rename_i hle
   simp only [sJ] at hc; subst hc
   exact ⟨by rw [h.1]; exact hle,((h.drop j).take n).agg⟩
  ·cases hc

omit [Laid] in
theorem ptr_cells {s o:Nat} {ds:List (Int×Nat×Nat)} {cs:List TV} {vs:List V} (h:LRel E cs vs) (hd:dsOk ds) {n:Option Nat} {c:TV}
  (hc:(match n with
   | none => cellAt cs o ds
   | some n => if 0 < n then match optAll (fun j => cellAt cs (o + j) ds) (List.range n) with
    | some l => some (.agg l)
    | none => none
    else none) = some c) :
  match n with
  | none => ∃ v,vs[o + dsOff ds]? = some v∧TRel E c v
  | some n => (0 < n∧o + dsOff ds + n≤vs.length)∧TRel E c (.agg ((vs.drop (o + dsOff ds)).take n)) := by
 cases n with
 | none => exact h.get (cellAt_get hc hd)
 | some n =>
  simp only at hc ⊢
  split at hc
  rotate_left
  ·cases hc
  rename_i hn0
  split at hc
  ·rename_i l hl
   simp only [sJ] at hc; subst hc
   have hcell:∀ j,j < n→∃ y,l[j]? = some y∧cs[o + dsOff ds + j]? = some y := by
    intro j hj
    obtain ⟨y,hy,hf⟩ := optAll_at (i := j) (x := j) hl (by simp [hj])
    have := cellAt_get hf hd
    rw [show o + j + dsOff ds = o + dsOff ds + j by omega] at this
    exact ⟨y,hy,this⟩
   have hlen:l.length = n := by have := (optAll_get _ l hl).1; simpa using this
   have hsz:0 < n→o + dsOff ds + n≤cs.length := by
    intro hn
    obtain ⟨y,_,hy⟩ := hcell (n - 1) (by omega)
    have := (List.getElem?_eq_some_iff.1 hy).1
    omega
   refine ⟨⟨hn0,by rw [h.1]; exact hsz hn0⟩,.agg _ _ ?_ ?_⟩
   ·rw [hlen,List.length_take,List.length_drop,h.1]
    rcases Nat.eq_zero_or_pos n with rfl | hn
    ·simp
    ·have := hsz hn; omega
   ·intro j c v hc hv
    have hj:j < n := by rw [← hlen]; exact (List.getElem?_eq_some_iff.1 hc).1
    obtain ⟨y,h1,h2⟩ := hcell j hj
    rw [h1,sJ] at hc; subst hc
    rw [List.getElem?_take,if_pos hj,List.getElem?_drop] at hv
    exact h.2 _ y v h2 hv
  ·cases hc

omit [Laid] in
theorem ipt_lrel {cs:List TV} {ps:List Pv} (hn:cs.length≤ps.length) (h:∀ (i:Nat) (c:TV) (p:Pv),cs[i]? = some c→ps[i]? = some p→PT c p):LRel E cs ((ps.map V.p).take cs.length) := by
 refine ⟨by simp; omega,fun i c v hc hv => ?_⟩
 have hi := (List.getElem?_eq_some_iff.1 hc).1
 rw [List.getElem?_take,if_pos hi,List.getElem?_map] at hv
 cases hq:ps[i]? with
 | none => simp [hq] at hv
 | some q => simp only [hq,Option.map_some,sJ] at hv; subst hv; exact .pure c q (h i c q hc hq)

omit [Laid] in
theorem load_rel {nt ns:Nat} {T:TSt} {st:St} (h:Conc nt ns E T st) {x:TV} {v:V} (hx:TRel E x v) {n:Option Nat} {c:TV} (hc:loadT T.c n x = some c) :
  ∃ cs,behind st.hp v = some cs∧match n with
  | none => ∃ u,cs[0]? = some u∧TRel E c u
  | some n => n≤cs.length∧TRel E c (.agg (cs.take n)) := by
 cases x with
 | ptr s o ds =>
  obtain ⟨hd,rfl⟩ := hx.inv_ptr
  simp only [loadT] at hc
  split at hc
  ·rename_i live cs hl
   have hb := h.c s
   rw [hl] at hb
   cases hs:st.hp[s]? with
   | none => rw [hs] at hb; exact hb.elim
   | some b =>
    rw [hs] at hb
    obtain ⟨h1,h2,h3,h4⟩ := hb
    have key := ptr_cells (s := s) h4 hd hc
    cases n with
    | none =>
     obtain ⟨u,k1,k2⟩ := key
     have hlt := (List.getElem?_eq_some_iff.1 k1).1
     refine ⟨b.cs.drop (o + dsOff ds),?_,u,by rw [List.getElem?_drop]; simpa using k1,k2⟩
     simp only [behind,hs]
     rw [if_pos ⟨h1,h2,by omega⟩]
    | some n =>
     obtain ⟨k1,k2⟩ := key
     have hlt := k1.2
     have hn := k1.1
     refine ⟨b.cs.drop (o + dsOff ds),?_,by rw [List.length_drop]; omega,k2⟩
     simp only [behind,hs]
     rw [if_pos ⟨h1,h2,by omega⟩]
  ·cases hc
 | pd s t i j =>
  obtain ⟨h0,h1,rfl⟩ := hx.inv_pd
  simp only [loadT] at hc
  split at hc
  ·rename_i live t' l hl
   split at hc
   ·rename_i ht
    have hb := h.c s
    rw [hl] at hb
    cases hs:st.hp[s]? with
    | none => rw [hs] at hb; exact hb.elim
    | some b =>
     rw [hs] at hb
     obtain ⟨k1,k2,k3,k4,es,k5,k6⟩ := hb
     have hi:i.toNat < l.length := by rw [← k4]; omega
     have hcells := dyn_cells (E := E) k6 hi
     rw [← k5] at hcells
     have hp := part_rel hcells hc
     have hlen:b.cs.length = l.length * t'.n := by rw [k5,List.length_map,flat_len es (lell_len k6),lell_n k6]
     have hmul:(i.toNat + 1) * t'.n≤l.length * t'.n := Nat.mul_le_mul_right _ hi
     rw [Nat.succ_mul] at hmul
     rw [← ht]
     cases n with
     | none =>
      obtain ⟨u,g1,g2⟩ := hp
      have hj := (List.getElem?_eq_some_iff.1 g1).1
      rw [List.length_take,List.length_drop] at hj
      rw [List.getElem?_take,if_pos (by omega),List.getElem?_drop] at g1
      refine ⟨b.cs.drop (i.toNat * t'.n + j),?_,u,by rw [List.getElem?_drop]; simpa using g1,g2⟩
      simp only [behind,hs]
      rw [if_pos ⟨k1,k2,by omega⟩]
     | some n =>
      obtain ⟨g1,g2⟩ := hp
      rw [List.length_take,List.length_drop] at g1
      refine ⟨b.cs.drop (i.toNat * t'.n + j),?_,by rw [List.length_drop]; omega,?_⟩
      ·simp only [behind,hs]
       rw [if_pos ⟨k1,k2,by omega⟩]
      ·have:((List.take t'.n (List.drop (i.toNat * t'.n) b.cs)).drop j).take n = (b.cs.drop (i.toNat * t'.n + j)).take n := by
        rw [List.drop_take,List.take_take,List.drop_drop,Nat.min_eq_left (by omega)]
       rw [this] at g2; exact g2
   ·cases hc
  ·cases hc
 | ipt cs =>
  obtain ⟨ps,rfl,hn,hp⟩ := hx.inv_ipt
  simp only [loadT] at hc
  have hr := part_rel (ipt_lrel (E := E) hn hp) hc
  refine ⟨ps.map V.p,rfl,?_⟩
  cases n with
  | none =>
   obtain ⟨u,g1,g2⟩ := hr
   rw [List.getElem?_take] at g1
   split at g1
   ·exact ⟨u,g1,g2⟩
   ·cases g1
  | some n =>
   obtain ⟨g1,g2⟩ := hr
   rw [List.length_take,List.length_map] at g1
   refine ⟨by rw [List.length_map]; omega,?_⟩
   rw [List.drop_zero,List.take_take,Nat.min_eq_left (by omega)] at g2
   exact g2
 | _ => simp [loadT] at hc
end
end Go.Mx
