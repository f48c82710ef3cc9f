/- Layers of the walk: abstract values, operations, calls, loops, and what they do. No condition. -/
import Derived.RangeFuncIn
import Derived.CallsIn
import Derived.OrdersIn
import Derived.Laws.Sem
import Derived.Laws.World
import Derived.Laws.Entries
import Derived.Laws.AppendOwn
import Derived.Below
import Derived.Laws.Strings
import Derived.Laws.IdiomStrings
import Derived.Laws.Small
import Derived.Laws.Slices
import Derived.ChangeKeysEq
import Derived.Laws.StructEq
import Derived.Laws.Append
import Derived.Laws.MakeOwn
import Derived.Laws.NewBlocks
import Derived.Laws.Externs
namespace Go.Mx
theorem sJ.{u} {α:Type u} (a b:α):(some a=some b)=(a=b) := Option.some.injEq a b
theorem pJ.{u,v} {α:Type u} {β:Type v} (a:α) (b:β) (c:α) (d:β):((a,b)=(c,d))=(a=c ∧ b=d) := Prod.mk.injEq a b c d
open Go.RowKit

inductive Pv where
 | int (k:IntKind) (n:Int)
 | bool (b:Bool)
 | str (s:ByteArray)
 | sl (k:Nat) (es:List (List Pv)) (full:Bool)
 | fn (f:FuncId) (cap:List (List Pv))
 | ifc (b:Bool)

inductive V where
 | p (x:Pv)
 | agg (cs:List V)
 | tup (vs:List V)
 | ptr (t ver o:Nat)
 | ipt (cs:List Pv)
 | ref (t ver o n k:Nat)
 | clo (f:FuncId) (cap:List V)
 | opt (b:Bool) (v:V)
 | und
 | no
 | yld (l:Nat)
 | ub (n:Nat)

instance:Inhabited Pv := ⟨.bool false⟩
instance:Inhabited V := ⟨.und⟩

def bmOf (f:Nat):Nat := f + 1000000000
theorem bm_is {f g:Nat} (h:g = bmOf f):g = f + 1000000000 := h

inductive PRel (S:Nat→Prop) (w:World):Pv→Value→Prop
 | int (k n):PRel S w (.int k n) (.int k n)
 | bool (b):PRel S w (.bool b) (.bool b)
 | str (s):PRel S w (.str s) (.string s)
 | slnil (k full):PRel S w (.sl k [] full) (.slice none 0 0)
 | sl0 (k full a cap) (h:full = true→cap = 0):PRel S w (.sl k [] full) (.slice (some a) 0 cap)
 | sl (k es full b o n cap) (cell:Nat→Nat→Value) (hs:S b) (hn:es.length = n) (h0:0 < n) (hc:n≤cap) (hf:full = true→cap = n)
   (hk:∀ e∈es,e.length = k)
   (h1:∀ i j e x,es[i]? = some e→e[j]? = some x→w.cell? ⟨b,o + (i * k + j),none⟩ = some (cell i j))
   (h2:∀ i j e x,es[i]? = some e→e[j]? = some x→PRel S w x (cell i j)):PRel S w (.sl k es full) (.slice (some ⟨b,o,none⟩) n cap)
 | fn (f cap caps) (hf:@LT.lt Nat _ f 1000000000) (b o:Nat→Nat) (cell:Nat→Nat→Value) (hn:caps.size = cap.length) (hs:∀ i e,cap[i]? = some e→S (b i))
   (hp:∀ i e,cap[i]? = some e→caps.getD i undef = .pointer (some ⟨b i,o i,none⟩))
   (h1:∀ i j e x,cap[i]? = some e→e[j]? = some x→w.cell? ⟨b i,o i + j,none⟩ = some (cell i j))
   (h2:∀ i j e x,cap[i]? = some e→e[j]? = some x→PRel S w x (cell i j)):PRel S w (.fn f cap) (.func (.func f) #[] caps)
 | ifn:PRel S w (.ifc true) .nilIface
 | ifs (t p):PRel S w (.ifc false) (.iface t p)
 | bnd (g f cs arr) (hg:g = bmOf f) (hn:arr.size = cs.length) (h:∀ j x,cs[j]? = some x→PRel S w x (arr.getD j undef)):PRel S w (.fn g [cs]) (.func (.func f) #[.agg arr] #[])

theorem PRel.cellOne {S:Nat→Prop} {w:World} {x:Pv} {v:Value} (h:PRel S w x v):v.oneCell' = true := by
 cases h <;> rfl

theorem cell_block {w w' : World} {a:Addr} (h:w'.heap[a.block]? = w.heap[a.block]?):w'.cell? a = w.cell? a := by
 simp only [World.cell?,h]

theorem PRel.mono {S S' : Nat→Prop} {w w' : World} {x:Pv} {v:Value} (h:PRel S w x v) (hS:∀ b,S b→S' b) (hw:∀ b,S b→w'.heap[b]? = w.heap[b]?):PRel S' w' x v := by
 induction h with
 | int k n => exact .int k n
 | bool b => exact .bool b
 | str s => exact .str s
 | slnil k full => exact .slnil k full
 | sl0 k full a cap h => exact .sl0 k full a cap h
 | sl k es full b o n cap cell hs hn h0 hc hf hk h1 h2 ih =>
  exact .sl k es full b o n cap cell (hS _ hs) hn h0 hc hf hk (fun i j e x he hx => (cell_block (hw _ hs)).trans (h1 i j e x he hx)) ih
 | fn f cap caps hf b o cell hn hs hp h1 h2 ih =>
  exact .fn f cap caps hf b o cell hn (fun i e he => hS _ (hs i e he)) hp (fun i j e x he hx => (cell_block (hw _ (hs i e he))).trans (h1 i j e x he hx)) ih
 | ifn => exact .ifn
 | ifs t p => exact .ifs t p
 | bnd g f cs arr hg hn h ih => exact .bnd g f cs arr hg hn ih

theorem PRel.mono2 {S S' : Nat→Prop} {w w' : World} {x:Pv} {v:Value} (h:PRel S w x v) (hS:∀ b,S b→S' b) (hw:∀ a v,S a.block→w.cell? a = some v→w'.cell? a = some v):PRel S' w' x v := by
 induction h with
 | int k n => exact .int k n
 | bool b => exact .bool b
 | str s => exact .str s
 | slnil k full => exact .slnil k full
 | sl0 k full a cap h => exact .sl0 k full a cap h
 | sl k es full b o n cap cell hs hn h0 hc hf hk h1 h2 ih =>
  exact .sl k es full b o n cap cell (hS _ hs) hn h0 hc hf hk (fun i j e x he hx => hw _ _ hs (h1 i j e x he hx)) ih
 | fn f cap caps hf b o cell hn hs hp h1 h2 ih =>
  exact .fn f cap caps hf b o cell hn (fun i e he => hS _ (hs i e he)) hp (fun i j e x he hx => hw _ _ (hs i e he) (h1 i j e x he hx)) ih
 | ifn => exact .ifn
 | ifs t p => exact .ifs t p
 | bnd g f cs arr hg hn h ih => exact .bnd g f cs arr hg hn ih

inductive Pl where
 | virgin
 | blk (c sz:Nat)

abbrev Plc := Nat→Nat→Option Pl

inductive VRel (Φ:Plc) (S:Nat→Prop) (w:World):V→Value→Prop
 | p (x v) (h:PRel S w x v):VRel Φ S w (.p x) v
 | agg (cs:List V) (arr:Array Value) (hn:arr.size = cs.length) (h:∀ i c,cs[i]? = some c→VRel Φ S w c (arr.getD i undef)):VRel Φ S w (.agg cs) (.agg arr)
 | tup (cs:List V) (arr:Array Value) (hn:arr.size = cs.length) (h:∀ i c,cs[i]? = some c→VRel Φ S w c (arr.getD i undef)):VRel Φ S w (.tup cs) (.tuple arr)
 | ptr (t ver o c sz) (h:Φ t ver = some (.blk c sz)):VRel Φ S w (.ptr t ver o) (.pointer (some ⟨c,o,none⟩))
 | ipt (cs:List Pv) (b o) (cell:Nat→Value) (hs:S b) (h1:∀ j x,cs[j]? = some x→w.cell? ⟨b,o + j,none⟩ = some (cell j))
   (h2:∀ j x,cs[j]? = some x→PRel S w x (cell j)):VRel Φ S w (.ipt cs) (.pointer (some ⟨b,o,none⟩))
 | ref (t ver o n k c sz cap) (h:Φ t ver = some (.blk c sz)) (hn:n≤cap) (hc:o + cap * k≤sz):VRel Φ S w (.ref t ver o n k) (.slice (some ⟨c,o,none⟩) n cap)
 | refv (t ver k a) (h:Φ t ver = some .virgin):VRel Φ S w (.ref t ver 0 0 k) (.slice a 0 0)
 | clo (f cap caps) (hf:@LT.lt Nat _ f 1000000000) (hn:caps.size = cap.length) (h:∀ i c,cap[i]? = some c→VRel Φ S w c (caps.getD i undef)):VRel Φ S w (.clo f cap) (.func (.func f) #[] caps)
 | opt (b v x) (h:b = true→VRel Φ S w v x):VRel Φ S w (.opt b v) x
 | und (v):VRel Φ S w .und v
 | no:VRel Φ S w .no undef
 | yld (l):VRel Φ S w (.yld l) (.func (.yield l) #[] #[])
 | ub (n b) (h:b = true→n = 0):VRel Φ S w (.ub n) (.bool b)

theorem VRel.mono {Φ Φ' : Plc} {S S' : Nat→Prop} {w w' : World} {x:V} {v:Value} (h:VRel Φ S w x v) (hΦ:∀ t k p,Φ t k = some p→Φ' t k = some p)
  (hS:∀ b,S b→S' b) (hw:∀ b,S b→w'.heap[b]? = w.heap[b]?):VRel Φ' S' w' x v := by
 induction h with
 | p x v h => exact .p x v (h.mono hS hw)
 | agg cs arr hn h ih => exact .agg cs arr hn ih
 | tup cs arr hn h ih => exact .tup cs arr hn ih
 | ptr t ver o c sz h => exact .ptr t ver o c sz (hΦ _ _ _ h)
 | ipt cs b o cell hs h1 h2 => exact .ipt cs b o cell (hS _ hs) (fun j x hx => (cell_block (hw _ hs)).trans (h1 j x hx)) (fun j x hx => (h2 j x hx).mono hS hw)
 | ref t ver o n k c sz cap h hn hc => exact .ref t ver o n k c sz cap (hΦ _ _ _ h) hn hc
 | refv t ver k a h => exact .refv t ver k a (hΦ _ _ _ h)
 | clo f cap caps hf hn h ih => exact .clo f cap caps hf hn ih
 | opt b v x h ih => exact .opt b v x ih
 | und v => exact .und v
 | no => exact .no
 | yld l => exact .yld l
 | ub n b h => exact .ub n b h

theorem VRel.mono2 {Φ:Plc} {S:Nat→Prop} {w w' : World} {x:V} {v:Value} (h:VRel Φ S w x v) (hw:∀ a v,S a.block→w.cell? a = some v→w'.cell? a = some v):VRel Φ S w' x v := by
 induction h with
 | p x v h => exact .p x v (h.mono2 (fun _ e => e) hw)
 | agg cs arr hn h ih => exact .agg cs arr hn ih
 | tup cs arr hn h ih => exact .tup cs arr hn ih
 | ptr t ver o c sz h => exact .ptr t ver o c sz h
 | ipt cs b o cell hs h1 h2 => exact .ipt cs b o cell hs (fun j x hx => hw _ _ hs (h1 j x hx)) (fun j x hx => (h2 j x hx).mono2 (fun _ e => e) hw)
 | ref t ver o n k c sz cap h hn hc => exact .ref t ver o n k c sz cap h hn hc
 | refv t ver k a h => exact .refv t ver k a h
 | clo f cap caps hf hn h ih => exact .clo f cap caps hf hn ih
 | opt b v x h ih => exact .opt b v x ih
 | und v => exact .und v
 | no => exact .no
 | yld l => exact .yld l
 | ub n b h => exact .ub n b h

class Laid where
 G:Nat→Option (List Pv)
 /-- Other package variables: what their cells are. -/
 Q:Nat→Option (Array Value→Prop) := fun _ => none
variable [Laid]
structure Glob (S:Nat→Prop) (w:World):Prop where
 g:∀ g cs,Laid.G g = some cs→VRel (fun _ _ => none) S w (.ipt cs) (.pointer (some ⟨g,0,none⟩))
 q:∀ g q,Laid.Q g = some q→S g∧∃ cs ty fz,w.heap[g]? = some (.cells cs ty fz)∧q cs
theorem Glob.mono {S S' : Nat→Prop} {w w' : World} (h:Glob S w) (hS:∀ b,S b→S' b) (hw:∀ b,S b→w'.heap[b]? = w.heap[b]?):Glob S' w' :=
 ⟨fun g cs hg => (h.g g cs hg).mono (fun _ _ _ e => e) hS hw,fun g q hq => by obtain ⟨h1,cs,ty,fz,h2,h3⟩ := h.q g q hq; exact ⟨hS _ h1,cs,ty,fz,(hw _ h1).trans h2,h3⟩⟩
theorem Glob.mono2 {S:Nat→Prop} {w w' : World} (h:Glob S w) (hw:∀ a v,S a.block→w.cell? a = some v→w'.cell? a = some v) (hh:∀ (b:Nat) (cs:Array Value) (ty:TypeId) (fz:Nat×Nat),w.heap[b]? = some (Obj.cells cs ty fz)→w'.heap[b]? = some (Obj.cells cs ty fz)):Glob S w' :=
 ⟨fun g cs hg => (h.g g cs hg).mono2 hw,fun g q hq => by obtain ⟨h1,cs,ty,fz,h2,h3⟩ := h.q g q hq; exact ⟨h1,cs,ty,fz,hh _ _ _ _ h2,h3⟩⟩
theorem Glob.rel {S:Nat→Prop} {w:World} (h:Glob S w) {Φ:Plc} {g:Nat} {cs:List Pv} (hg:Laid.G g = some cs):VRel Φ S w (.ipt cs) (.pointer (some ⟨g,0,none⟩)) := (h.g g cs hg).mono (fun _ _ _ e => by cases e) (fun _ e => e) (fun _ _ => rfl)

inductive BSt where
 | dead | live | frozen

structure Blk where
 ver:Nat
 st:BSt
 cs:List V

structure St where
 ts:List V
 hp:List Blk

def BRel (m:Nat) (Φ:Plc) (S Jo:Nat→Prop) (w0 w:World) (t:Nat) (b:Blk):Prop :=
 match b.st with
 | .dead => True
 | .live => (Φ t b.ver = some .virgin∧b.cs = []) ∨ ∃ c sz arr ty,Φ t b.ver = some (.blk c sz)∧w.heap[c]? = some (.cells arr ty (0,0))∧arr.size = sz∧b.cs.length≤sz ∧
   (∀ i x,b.cs[i]? = some x→VRel Φ S w x (arr.getD i undef))∧¬ S c∧(Jo c ∨ w0.heap.size≤c)
 | .frozen => (Φ t b.ver = some .virgin∧b.cs = []) ∨ ∃ c sz,Φ t b.ver = some (.blk c sz)∧S c ∧
   ∃ arr ty fz,w.heap[c]? = some (.cells arr ty fz)∧(arr.size = sz∧b.cs.length≤sz)∧(∀ i x,b.cs[i]? = some x→VRel Φ S w x (arr.getD i undef))

structure Fr (Jo:Nat→Prop) (w0 w:World):Prop where
 os:w.os = w0.os
 tape:w.tape = w0.tape
 output:w.output = w0.output
 size:w0.heap.size≤w.heap.size
 block:∀ b,b < w0.heap.size→¬ Jo b→w.heap[b]? = w0.heap[b]?

omit [Laid] in
theorem Fr.refl (Jo:Nat→Prop) (w:World):Fr Jo w w := ⟨rfl,rfl,rfl,Nat.le_refl _,fun _ _ _ => rfl⟩
omit [Laid] in
theorem Fr.below {w0 w:World} (h:Fr (fun _ => False) w0 w):Below w0.heap.size w0 w := ⟨h.os,h.tape,h.output,h.size,fun b hb => h.block b hb (fun e => e)⟩

structure Bs where
 keep:Nat→Prop
 vals:Nat→Value
 len:Nat→List Deferred→Prop
 low:Nat
 iob:Nat→Nat×Nat
def Bs0 (n:Nat):Bs := ⟨fun _ => False,fun _ => undef,fun _ _ => True,n,fun _ => (0,0)⟩
def BsI (n:Nat) (bl:List (Nat×Nat)):Bs := ⟨fun _ => False,fun _ => undef,fun _ _ => True,n,fun t => bl.getD t (0,0)⟩

def Marks (n0:Nat) (w:World):List Deferred→Prop
 | [] => True
 | d :: ds => (∃ r,d.target = .collected r∧n0≤r∧w.heap[r]? = some (.deferred (some []))∧∀ d'∈ds,d'.target ≠ .collected r)∧Marks n0 w ds
omit [Laid] in
theorem Marks.keep {n0:Nat} {w w' : World} (hw:∀ (r:Nat) (o:Option (List Deferred)),w.heap[r]? = some (Obj.deferred o)→w'.heap[r]? = some (Obj.deferred o)):∀ {ds:List Deferred},Marks n0 w ds→Marks n0 w' ds
 | [],_ => trivial
 | _ :: _,⟨⟨r,h1,h2,h3,h4⟩,h5⟩ => ⟨⟨r,h1,h2,hw _ _ h3,h4⟩,h5.keep hw⟩
omit [Laid] in
theorem marks_grown {n0:Nat} {w w' : World} (hb:∀ b,b < w.heap.size→w'.heap[b]? = w.heap[b]?) {ds:List Deferred} (h:Marks n0 w ds):Marks n0 w' ds :=
 h.keep fun r o e => (hb r (Array.getElem?_eq_some_iff.1 e).1).trans e
omit [Laid] in
theorem marks_only {n0:Nat} {w w' : World} {c:Nat} {arr:Array Value} {ty:TypeId} {fz:Nat×Nat} (hc:w.heap[c]? = some (.cells arr ty fz)) (hb:∀ b,b < w.heap.size→b ≠ c→w'.heap[b]? = w.heap[b]?) {ds:List Deferred} (h:Marks n0 w ds):Marks n0 w' ds :=
 h.keep fun r o e => (hb r (Array.getElem?_eq_some_iff.1 e).1 (fun e' => by subst e'; rw [hc] at e; cases e)).trans e

structure Sim (m:Nat) (w0:World) (S0 Jo:Nat→Prop) (D:Bs) (Φ:Plc) (S:Nat→Prop) (st:St) (a:Act) (w:World):Prop where
 defers:Marks D.low w a.defers
 same:(∀ t,D.keep t→a.tmps.getD t undef = D.vals t)∧D.len a.tmps.size a.defers
 size:a.tmps.size = st.ts.length
 ts:∀ t v,st.ts[t]? = some v→VRel Φ S w v (a.tmps.getD t undef)
 hp:∀ t b,st.hp[t]? = some b→BRel m Φ S Jo w0 w t b
 fresh:∀ t b ver,st.hp[t]? = some b→b.ver < ver→Φ t ver = none
 inj:∀ t t' b b' c sz c' sz',st.hp[t]? = some b→st.hp[t']? = some b'→b.st = .live→b'.st = .live→Φ t b.ver = some (.blk c sz)→Φ t' b'.ver = some (.blk c' sz')→t ≠ t'→c ≠ c'
 Slt:∀ b,S b→b < w.heap.size
 Sold:∀ b,S0 b→S b
 Snew:∀ b,S b→S0 b ∨ w0.heap.size≤b ∨ Jo b
 frame:Fr Jo w0 w
 io:∀ t,t < m→Φ t 0 = some (.blk (D.iob t).1 (D.iob t).2)
 glob:Glob S w

section
variable {m:Nat} {w0:World} {S0 Jo:Nat→Prop} {D:Bs} {Φ:Plc} {S:Nat→Prop} {st:St} {a:Act} {w:World}

omit [Laid] in
theorem getD_set {arr:Array Value} {d t:Nat} {x:Value}:(arr.setIfInBounds d x).getD t undef = if d = t∧t < arr.size then x else arr.getD t undef := by
 by_cases h:t < arr.size
 ·simp only [Array.getD,Array.size_setIfInBounds,h,dif_pos,and_true]
  by_cases e:d = t
  ·subst e; simp
  ·simp only [e,if_false]; exact Array.getElem_setIfInBounds_ne (by simpa using h) e
 ·simp [Array.getD,h]

def St.put (st:St) (d:Option Nat) (v:V):St := match d with | some d => { st with ts := st.ts.set d v } | none => st

theorem Sim.put (h:Sim m w0 S0 Jo D Φ S st a w) {d:Option Nat} (hd:∀ k,d = some k→¬ D.keep k) {v:V} {x:Value} (hv:VRel Φ S w v x):Sim m w0 S0 Jo D Φ S (st.put d v) (a.put d x) w := by
 cases d with
 | none => exact h
 | some d =>
  refine ⟨h.defers,⟨fun t ht => ?_,by simpa [Act.put] using h.same.2⟩,by simp [St.put,Act.put,h.size],?_,h.hp,h.fresh,h.inj,h.Slt,h.Sold,h.Snew,h.frame,h.io,h.glob⟩
  ·simp only [Act.put]
   rw [getD_set,if_neg (by rintro ⟨rfl,_⟩; exact hd _ rfl ht)]; exact h.same.1 t ht
  intro t u hu
  simp only [St.put,Act.put] at hu ⊢
  rw [getD_set]
  rw [List.getElem?_set] at hu
  by_cases e:d = t
  ·subst e
   by_cases hlt:d < st.ts.length
   ·simp [hlt] at hu; subst hu
    rw [if_pos ⟨rfl,by rw [h.size]; exact hlt⟩]; exact hv
   ·simp [hlt] at hu
  ·rw [if_neg e] at hu
   rw [if_neg (fun hh => e hh.1)]
   exact h.ts t u hu

theorem Sim.grow (h:Sim m w0 S0 Jo D Φ S st a w) {S' : Nat→Prop} {w' : World} (ho:w'.os = w.os) (ht:w'.tape = w.tape) (hp:w'.output = w.output) (hs:w.heap.size≤w'.heap.size)
  (hb:∀ b,b < w.heap.size→w'.heap[b]? = w.heap[b]?) (hS:∀ b,S b→S' b) (hS2:∀ b,S' b→S b ∨ w.heap.size≤b) (hS3:∀ b,S' b→b < w'.heap.size) :
  Sim m w0 S0 Jo D Φ S' st a w' := by
 have hw:∀ b,S b→w'.heap[b]? = w.heap[b]? := fun b h' => hb b (h.Slt b h')
 have hlt:∀ c o,w.heap[c]? = some o→c < w.heap.size := fun c o e => (Array.getElem?_eq_some_iff.1 e).1
 refine ⟨marks_grown hb h.defers,h.same,h.size,fun t v hv => (h.ts t v hv).mono (fun _ _ _ e => e) hS hw,?_,h.fresh,h.inj,hS3,fun b hb' => hS b (h.Sold b hb'),?_,?_,h.io,h.glob.mono hS hw⟩
 ·intro t b hb'
  have hB := h.hp t b hb'
  unfold BRel at hB ⊢
  split at hB
  ·trivial
  ·rcases hB with hB | ⟨c,sz,arr,ty,h1,h2,h3,h4,h5,h6,h7⟩
   ·exact .inl hB
   ·refine .inr ⟨c,sz,arr,ty,h1,(hb c (hlt _ _ h2)).trans h2,h3,h4,fun i x hx => (h5 i x hx).mono (fun _ _ _ e => e) hS hw,?_,h7⟩
    intro hc
    rcases hS2 c hc with hc | hc
    ·exact h6 hc
    ·have := hlt _ _ h2; omega
  ·rcases hB with hB | ⟨c,sz,h1,h2,arr,ty,fz,h3,h4,h5⟩
   ·exact .inl hB
   ·exact .inr ⟨c,sz,h1,hS c h2,arr,ty,fz,(hb c (hlt _ _ h3)).trans h3,h4,fun i x hx => (h5 i x hx).mono (fun _ _ _ e => e) hS hw⟩
 ·intro b hb'
  rcases hS2 b hb' with h' | h'
  ·exact h.Snew b h'
  ·exact .inr (.inl (Nat.le_trans h.frame.size h'))
 ·exact ⟨ho.trans h.frame.os,ht.trans h.frame.tape,hp.trans h.frame.output,Nat.le_trans h.frame.size hs,fun b hb' hio => (hb b (Nat.lt_of_lt_of_le hb' h.frame.size)).trans (h.frame.block b hb' hio)⟩

theorem Sim.drew (h:Sim m w0 S0 Jo D Φ S st a w) (n:Nat):Sim m w0 S0 Jo D Φ S st a { w with drawn := n } :=
 h.grow rfl rfl rfl (Nat.le_refl _) (fun _ _ => rfl) (fun _ e => e) (fun _ e => .inl e) h.Slt

theorem Sim.new (h:Sim m w0 S0 Jo D Φ S st a w) {t:Nat} {b:Blk} (hb:st.hp[t]? = some b) {arr:Array Value} {ty:TypeId} {cs:List V} (hn:cs.length≤arr.size)
  (hc:∀ i x,cs[i]? = some x→VRel Φ S w x (arr.getD i undef)) :
  ∃ Φ',(∀ t k p,Φ t k = some p→Φ' t k = some p)∧Φ' t (b.ver + 1) = some (.blk w.heap.size arr.size) ∧
   Sim m w0 S0 Jo D Φ' S { st with hp := st.hp.set t ⟨b.ver + 1,.live,cs⟩ } a (w.alloc (.cells arr ty)) := by
 have h1:Sim m w0 S0 Jo D Φ S st a (w.alloc (.cells arr ty)) :=
  h.grow rfl rfl rfl (by simp) (fun b hb => Below.heap_alloc w _ b hb) (fun _ e => e) (fun _ e => .inl e) (fun b hb => by have := h.Slt b hb; simp; omega)
 let Φ' : Plc := fun t' k => if t' = t∧k = b.ver + 1 then some (.blk w.heap.size arr.size) else Φ t' k
 have hΦ:∀ t k p,Φ t k = some p→Φ' t k = some p := by
  intro t' k p hp
  simp only [Φ']
  split
  ·rename_i e; obtain ⟨rfl,rfl⟩ := e
   rw [h.fresh _ b _ hb (Nat.lt_succ_self _)] at hp; cases hp
  ·exact hp
 have hΦt:Φ' t (b.ver + 1) = some (.blk w.heap.size arr.size) := by simp [Φ']
 have hne:∀ t' k,t' ≠ t→Φ' t' k = Φ t' k := fun t' k e => by simp [Φ',e]
 have hSw:∀ b,S b→(w.alloc (Obj.cells arr ty)).heap[b]? = w.heap[b]? := fun b hb => Below.heap_alloc w _ b (h.Slt b hb)
 have hget:∀ t' b',(st.hp.set t ⟨b.ver + 1,.live,cs⟩)[t']? = some b'→(t' = t∧b' = ⟨b.ver + 1,.live,cs⟩) ∨ (t' ≠ t∧st.hp[t']? = some b') := by
  intro t' b' e
  rw [List.getElem?_set] at e
  by_cases e' : t = t'
  ·subst e'
   rw [if_pos rfl] at e
   split at e
   ·left; exact ⟨rfl,by simpa using e.symm⟩
   ·cases e
  ·rw [if_neg e'] at e; exact .inr ⟨fun x => e' x.symm,e⟩
 refine ⟨Φ',hΦ,hΦt,⟨h1.defers,h1.same,h1.size,fun t v hv => (h1.ts t v hv).mono hΦ (fun _ e => e) (fun _ _ => rfl),?_,?_,?_,h1.Slt,h1.Sold,h1.Snew,h1.frame,fun t' hm => hΦ _ _ _ (h1.io t' hm),h1.glob⟩⟩
 ·intro t' b' hb'
  rcases hget t' b' hb' with ⟨rfl,rfl⟩ | ⟨hne',hb'⟩
  ·unfold BRel
   refine .inr ⟨w.heap.size,arr.size,arr,ty,hΦt,?_,rfl,hn,fun i x hx => (hc i x hx).mono hΦ (fun _ e => e) hSw,?_,.inr h.frame.size⟩
   ·exact heap_alloc_new w _
   ·intro hs; exact Nat.lt_irrefl _ (h.Slt _ hs)
  ·have hB := h1.hp t' b' hb'
   unfold BRel at hB ⊢
   split at hB
   ·trivial
   ·rcases hB with hB | ⟨c,sz,arr',ty',k1,k2,k3,k4,k5,k6,k7⟩
    ·exact .inl ⟨by rw [hne _ _ hne']; exact hB.1,hB.2⟩
    ·exact .inr ⟨c,sz,arr',ty',by rw [hne _ _ hne']; exact k1,k2,k3,k4,fun i x hx => (k5 i x hx).mono hΦ (fun _ e => e) (fun _ _ => rfl),k6,k7⟩
   ·rcases hB with hB | ⟨c,sz,k1,k2,arr',ty',fz,k3,k4,k5⟩
    ·exact .inl ⟨by rw [hne _ _ hne']; exact hB.1,hB.2⟩
    ·exact .inr ⟨c,sz,by rw [hne _ _ hne']; exact k1,k2,arr',ty',fz,k3,k4,fun i x hx => (k5 i x hx).mono hΦ (fun _ e => e) (fun _ _ => rfl)⟩
 ·intro t' b' ver hb' hv
  rcases hget t' b' hb' with ⟨rfl,rfl⟩ | ⟨hne',hb'⟩
  ·simp only [Φ']
   dsimp only at hv
   rw [if_neg (by omega)]
   exact h.fresh _ b _ hb (by omega)
  ·rw [hne _ _ hne']; exact h.fresh _ b' _ hb' hv
 ·intro t1 t2 b1 b2 c1 s1 c2 s2 g1 g2 l1 l2 p1 p2 hne12
  dsimp only at g1 g2
  have old:∀ t' b' c sz,st.hp[t']? = some b'→b'.st = .live→Φ t' b'.ver = some (.blk c sz)→c < w.heap.size := by
   intro t' b' c sz g l p
   have hB := h.hp t' b' g
   unfold BRel at hB
   rw [l] at hB
   rcases hB with ⟨hB,_⟩ | ⟨c',sz',arr',ty',k1,k2,_⟩
   ·rw [hB] at p; cases p
   ·rw [k1] at p; injection p with p; injection p with p1 p2
    subst p1
    exact (Array.getElem?_eq_some_iff.1 k2).1
  rcases hget t1 b1 g1 with ⟨e1,rfl⟩ | ⟨n1,k1⟩
  ·rcases hget t2 b2 g2 with ⟨e2,rfl⟩ | ⟨n2,k2⟩
   ·exact absurd (e1.trans e2.symm) hne12
   ·subst e1
    rw [hΦt] at p1; injection p1 with p1; injection p1 with p1 _
    rw [hne _ _ n2] at p2
    have := old _ _ _ _ k2 l2 p2
    omega
  ·rw [hne _ _ n1] at p1
   rcases hget t2 b2 g2 with ⟨e2,rfl⟩ | ⟨n2,k2⟩
   ·subst e2
    rw [hΦt] at p2; injection p2 with p2; injection p2 with p2 _
    have := old _ _ _ _ k1 l1 p1
    omega
   ·rw [hne _ _ n2] at p2
    exact h.inj _ _ _ _ _ _ _ _ k1 k2 l1 l2 p1 p2 hne12
end
end Go.Mx
namespace Go.Mx
variable [Laid]
open Go.RowKit

section
variable {m:Nat} {w0:World} {S0 Jo:Nat→Prop} {D:Bs} {Φ:Plc} {S:Nat→Prop} {st:St} {a:Act} {w:World}

def wr {α:Type}:List α→Nat→List α→List α
 | cs,_,[] => cs
 | cs,o,v :: vs => wr (cs.set o v) (o + 1) vs

omit [Laid] in
theorem wr_length {α:Type}:∀ (vs:List α) (cs:List α) (o:Nat),(wr cs o vs).length = cs.length
 | [],_,_ => rfl
 | v :: vs,cs,o => by rw [wr,wr_length vs]; simp

omit [Laid] in
theorem wr_get {α:Type}:∀ (vs:List α) (cs:List α) (o i:Nat) (x:α),(wr cs o vs)[i]? = some x→(o≤i∧vs[i - o]? = some x) ∨ ((i < o ∨ o + vs.length≤i)∧cs[i]? = some x)
 | [],cs,o,i,x,h => by
  right
  refine ⟨?_,h⟩
  simp; omega
 | v :: vs,cs,o,i,x,h => by
  rw [wr] at h
  rcases wr_get vs _ _ i x h with ⟨h1,h2⟩ | ⟨h1,h2⟩
  ·left
   refine ⟨by omega,?_⟩
   have e:i - o = (i - (o + 1)) + 1 := by omega
   rw [e]; simpa using h2
  ·rw [List.getElem?_set] at h2
   by_cases e:o = i
   ·subst e
    rw [if_pos rfl] at h2
    split at h2
    ·left; exact ⟨Nat.le_refl _,by simpa using h2⟩
    ·cases h2
   ·rw [if_neg e] at h2
    right
    refine ⟨?_,h2⟩
    simp only [List.length_cons]
    omega

structure Only (c:Nat) (w w' : World):Prop where
 os:w'.os = w.os
 tape:w'.tape = w.tape
 output:w'.output = w.output
 size:w'.heap.size = w.heap.size
 block:∀ b,b ≠ c→w'.heap[b]? = w.heap[b]?

omit [Laid] in
theorem heap_setCell_same {w:World} {c o:Nat} {arr:Array Value} {ty:TypeId} {f:Nat×Nat} (h:w.heap[c]? = some (.cells arr ty f)) (v:Value) :
  (w.setCell ⟨c,o,none⟩ v).heap[c]? = some (.cells (arr.setIfInBounds o v) ty f) := by
 simp [World.setCell,Array.getElem?_modify,h]

omit [Laid] in
theorem run_storeCells (P:Program) {c o:Nat} {ty:TypeId}:∀ (vs:List Value) (i:Nat) (w:World) (arr:Array Value),w.heap[c]? = some (.cells arr ty (0,0))→(∀ v∈vs,v.oneCell' = true) →
  o + i + vs.length≤arr.size →
  ∃ w' arr',(storeCells ⟨c,o,none⟩ vs i).run P w = .ok () w'∧Only c w w'∧w'.heap[c]? = some (.cells arr' ty (0,0))∧arr'.size = arr.size ∧
   ∀ j,arr'.getD j undef = if o + i≤j∧j < o + i + vs.length then vs.getD (j - (o + i)) undef else arr.getD j undef
 | [],i,w,arr,h,_,_ => ⟨w,arr,rfl,⟨rfl,rfl,rfl,rfl,fun _ _ => rfl⟩,h,rfl,fun j => by rw [if_neg (by simp only [List.length_nil]; omega)]⟩
 | v :: vs,i,w,arr,h,h1,hn => by
  simp only [List.length_cons] at hn
  have ha:(⟨c,o,none⟩ : Addr).add i = ⟨c,o + i,none⟩ := by simp only [Addr.add]; split <;> simp_all
  have hcell:w.cell? ⟨c,o + i,none⟩ = some (arr.getD (o + i) undef) := by
   simp [World.cell?,h,Array.getD,show o + i < arr.size by omega]
  have hfz:w.frozen? ⟨c,o + i,none⟩ = false := by simp [World.frozen?,h]
  have hs := heap_setCell_same (o := o + i) h v
  obtain ⟨w',arr',hrun,ho,hb,hsz,hg⟩ := run_storeCells P (c := c) (o := o) (ty := ty) vs (i + 1) (w.setCell ⟨c,o + i,none⟩ v) (arr.setIfInBounds (o + i) v) hs
   (fun u hu => h1 u (by simp [hu])) (by simp; omega)
  refine ⟨w',arr',?_,?_,hb,by simpa using hsz,?_⟩
  ·simp only [storeCells,Sem.run_bind,ha,run_store P w _ v _ (h1 v (by simp)),hcell,hfz]
   simpa using hrun
  ·refine ⟨ho.os,ho.tape,ho.output,by rw [ho.size]; simp,fun b hb' => (ho.block b hb').trans (Below.heap_setCell w _ _ b hb')⟩
  ·intro j
   rw [hg j,getD_set]
   by_cases e:o + i = j
   ·subst e
    rw [if_neg (by omega),if_pos ⟨rfl,by omega⟩,if_pos (by simp)]
    simp
   ·by_cases e2:o + (i + 1)≤j∧j < o + (i + 1) + vs.length
    ·rw [if_pos e2,if_pos (by simp only [List.length_cons]; omega)]
     have:j - (o + i) = (j - (o + (i + 1))) + 1 := by omega
     rw [this]; simp
    ·rw [if_neg e2,if_neg (fun hh => e hh.1),if_neg (by simp only [List.length_cons]; omega)]

theorem live_of {t:Nat} {b:Blk} (h:Sim m w0 S0 Jo D Φ S st a w) (hb:st.hp[t]? = some b) (hl:b.st = .live) {c sz:Nat} (hp:Φ t b.ver = some (.blk c sz)) :
  ∃ arr ty,w.heap[c]? = some (.cells arr ty (0,0))∧arr.size = sz∧b.cs.length≤sz∧(∀ i x,b.cs[i]? = some x→VRel Φ S w x (arr.getD i undef))∧¬ S c∧(Jo c ∨ w0.heap.size≤c) := by
 have hB := h.hp t b hb
 unfold BRel at hB
 rw [hl] at hB
 rcases hB with ⟨hB,_⟩ | ⟨c',sz',arr,ty,k1,k2,k3,k4,k5,k6,k7⟩
 ·rw [hB] at hp; cases hp
 ·rw [k1] at hp; injection hp with hp; injection hp with e1 e2
  subst e1 e2
  exact ⟨arr,ty,k2,k3,k4,k5,k6,k7⟩

theorem Sim.turn (h:Sim m w0 S0 Jo D Φ S st a w) {t:Nat} {b:Blk} (hb:st.hp[t]? = some b) (hl:b.st = .live) {c sz:Nat} (hp:Φ t b.ver = some (.blk c sz))
  {w' : World} (ho:Only c w w') {arr' : Array Value} {ty' : TypeId} (hh:w'.heap[c]? = some (.cells arr' ty' (0,0))) (hs:arr'.size = sz) {cs' : List V} (hn:cs'.length≤sz)
  (hc:∀ i x,cs'[i]? = some x→VRel Φ S w x (arr'.getD i undef)):Sim m w0 S0 Jo D Φ S { st with hp := st.hp.set t ⟨b.ver,.live,cs'⟩ } a w' := by
 obtain ⟨arr,ty,k2,k3,k4,k5,k6,k7⟩ := live_of h hb hl hp
 have hSw:∀ b,S b→w'.heap[b]? = w.heap[b]? := fun b hb => ho.block b (fun e => k6 (e ▸ hb))
 have hget:∀ t' b',(st.hp.set t ⟨b.ver,.live,cs'⟩)[t']? = some b'→(t' = t∧b' = ⟨b.ver,.live,cs'⟩) ∨ (t' ≠ t∧st.hp[t']? = some b') := by
  intro t' b' e
  rw [List.getElem?_set] at e
  by_cases e' : t = t'
  ·subst e'
   rw [if_pos rfl] at e
   split at e
   ·left; exact ⟨rfl,by simpa using e.symm⟩
   ·cases e
  ·rw [if_neg e'] at e; exact .inr ⟨fun x => e' x.symm,e⟩
 refine ⟨marks_only k2 (fun b _ hb => ho.block b hb) h.defers,h.same,h.size,fun t v hv => (h.ts t v hv).mono (fun _ _ _ e => e) (fun _ e => e) hSw,?_,?_,?_,fun b hb => by rw [ho.size]; exact h.Slt b hb,h.Sold,h.Snew,?_,h.io,h.glob.mono (fun _ e => e) hSw⟩
 ·intro t' b' hb'
  rcases hget t' b' hb' with ⟨rfl,rfl⟩ | ⟨hne',hb'⟩
  ·unfold BRel
   exact .inr ⟨c,sz,arr',ty',hp,hh,hs,hn,fun i x hx => (hc i x hx).mono (fun _ _ _ e => e) (fun _ e => e) hSw,k6,k7⟩
  ·have hB := h.hp t' b' hb'
   unfold BRel at hB ⊢
   split at hB
   ·trivial
   ·rename_i hl'
    rcases hB with hB | ⟨c',sz',arr2,ty2,q1,q2,q3,q4,q5,q6,q7⟩
    ·exact .inl hB
    ·refine .inr ⟨c',sz',arr2,ty2,q1,?_,q3,q4,fun i x hx => (q5 i x hx).mono (fun _ _ _ e => e) (fun _ e => e) hSw,q6,q7⟩
     rw [ho.block c' (h.inj _ _ _ _ _ _ _ _ hb' hb hl' hl q1 hp hne')]; exact q2
   ·rcases hB with hB | ⟨c',sz',q1,q2,arr2,ty2,fz,q3,q4,q5⟩
    ·exact .inl hB
    ·exact .inr ⟨c',sz',q1,q2,arr2,ty2,fz,by rw [hSw c' q2]; exact q3,q4,fun i x hx => (q5 i x hx).mono (fun _ _ _ e => e) (fun _ e => e) hSw⟩
 ·intro t' b' ver hb' hv
  rcases hget t' b' hb' with ⟨rfl,rfl⟩ | ⟨hne',hb'⟩
  ·exact h.fresh _ b _ hb hv
  ·exact h.fresh _ b' _ hb' hv
 ·intro t1 t2 b1 b2 c1 s1 c2 s2 g1 g2 l1 l2 p1 p2 hne12
  rcases hget t1 b1 g1 with ⟨e1,rfl⟩ | ⟨n1,q1⟩
  ·rcases hget t2 b2 g2 with ⟨e2,rfl⟩ | ⟨n2,q2⟩
   ·exact absurd (e1.trans e2.symm) hne12
   ·subst e1
    exact h.inj _ _ _ _ _ _ _ _ hb q2 hl l2 p1 p2 hne12
  ·rcases hget t2 b2 g2 with ⟨e2,rfl⟩ | ⟨n2,q2⟩
   ·subst e2
    exact h.inj _ _ _ _ _ _ _ _ q1 hb l1 hl p1 p2 hne12
   ·exact h.inj _ _ _ _ _ _ _ _ q1 q2 l1 l2 p1 p2 hne12
 ·have hf := h.frame
  refine ⟨ho.os.trans hf.os,ho.tape.trans hf.tape,ho.output.trans hf.output,by rw [ho.size]; exact hf.size,fun b hb' hio => ?_⟩
  rw [ho.block b (fun e => by subst e; first | (rcases k7 with k7 | k7 <;> first | exact hio k7 | omega))]
  exact hf.block b hb' hio

theorem Sim.freeze (h:Sim m w0 S0 Jo D Φ S st a w) {t:Nat} {b:Blk} (hb:st.hp[t]? = some b) (hl:b.st = .live) (ht:m≤t) :
  ∃ S',(∀ b,S b→S' b)∧(∀ c sz,Φ t b.ver = some (.blk c sz)→S' c)∧Sim m w0 S0 Jo D Φ S' { st with hp := st.hp.set t ⟨b.ver,.frozen,b.cs⟩ } a w := by
 have hget:∀ t' b',(st.hp.set t ⟨b.ver,.frozen,b.cs⟩)[t']? = some b'→(t' = t∧b' = ⟨b.ver,.frozen,b.cs⟩) ∨ (t' ≠ t∧st.hp[t']? = some b') := by
  intro t' b' e
  rw [List.getElem?_set] at e
  by_cases e' : t = t'
  ·subst e'
   rw [if_pos rfl] at e
   split at e
   ·left; exact ⟨rfl,by simpa using e.symm⟩
   ·cases e
  ·rw [if_neg e'] at e; exact .inr ⟨fun x => e' x.symm,e⟩
 let S' : Nat→Prop := fun c => S c ∨ ∃ sz,Φ t b.ver = some (.blk c sz)
 have hS' : ∀ b,S b→S' b := fun b hb => .inl hb
 refine ⟨S',hS',fun c sz hc => .inr ⟨sz,hc⟩,⟨h.defers,h.same,h.size,fun t v hv => (h.ts t v hv).mono (fun _ _ _ e => e) hS' (fun _ _ => ?_),?_,?_,?_,?_,fun b hb => hS' b (h.Sold b hb),?_,h.frame,h.io,h.glob.mono hS' (fun _ _ => rfl)⟩⟩
 ·rfl
 ·intro t' b' hb'
  rcases hget t' b' hb' with ⟨rfl,rfl⟩ | ⟨hne',hb'⟩
  ·unfold BRel
   have hB := h.hp t' b hb
   unfold BRel at hB
   rw [hl] at hB
   rcases hB with hB | ⟨c,sz,arr,ty,k1,k2,k3,k4,k5,k6,k7⟩
   ·exact .inl hB
   ·exact .inr ⟨c,sz,k1,.inr ⟨sz,k1⟩,arr,ty,(0,0),k2,⟨k3,k4⟩,fun i x hx => (k5 i x hx).mono (fun _ _ _ e => e) hS' (fun _ _ => rfl)⟩
  ·have hB := h.hp t' b' hb'
   unfold BRel at hB ⊢
   split at hB
   ·trivial
   ·rename_i hl'
    rcases hB with hB | ⟨c',sz',arr2,ty2,q1,q2,q3,q4,q5,q6,q7⟩
    ·exact .inl hB
    ·refine .inr ⟨c',sz',arr2,ty2,q1,q2,q3,q4,fun i x hx => (q5 i x hx).mono (fun _ _ _ e => e) hS' (fun _ _ => rfl),?_,q7⟩
     rintro (hc | ⟨sz,hc⟩)
     ·exact q6 hc
     ·exact h.inj _ _ _ _ _ _ _ _ hb' hb hl' hl q1 hc hne' rfl
   ·rcases hB with hB | ⟨c',sz',q1,q2,arr2,ty2,fz,q3,q4,q5⟩
    ·exact .inl hB
    ·exact .inr ⟨c',sz',q1,.inl q2,arr2,ty2,fz,q3,q4,fun i x hx => (q5 i x hx).mono (fun _ _ _ e => e) hS' (fun _ _ => rfl)⟩
 ·intro t' b' ver hb' hv
  rcases hget t' b' hb' with ⟨rfl,rfl⟩ | ⟨hne',hb'⟩
  ·exact h.fresh _ b _ hb hv
  ·exact h.fresh _ b' _ hb' hv
 ·intro t1 t2 b1 b2 c1 s1 c2 s2 g1 g2 l1 l2 p1 p2 hne12
  rcases hget t1 b1 g1 with ⟨e1,rfl⟩ | ⟨n1,q1⟩
  ·cases l1
  ·rcases hget t2 b2 g2 with ⟨e2,rfl⟩ | ⟨n2,q2⟩
   ·cases l2
   ·exact h.inj _ _ _ _ _ _ _ _ q1 q2 l1 l2 p1 p2 hne12
 ·rintro c (hc | ⟨sz,hc⟩)
  ·exact h.Slt c hc
  ·obtain ⟨arr,ty,k2,_⟩ := live_of h hb hl hc
   exact (Array.getElem?_eq_some_iff.1 k2).1
 ·rintro c (hc | ⟨sz,hc⟩)
  ·exact h.Snew c hc
  ·obtain ⟨arr,ty,k2,k3,k4,k5,k6,k7⟩ := live_of h hb hl hc
   rcases k7 with k7 | k7
   ·exact .inr (.inr k7)
   ·exact .inr (.inl k7)

omit [Laid] in
theorem run_loadCells (P:Program) {c o:Nat} (f:Nat→Value):∀ (n i:Nat) (w:World) (acc:Array Value),(∀ j,j < n→w.cell? ⟨c,o + (i + j),none⟩ = some (f (i + j))) →
  (loadCellsFrom ⟨c,o,none⟩ i n acc).run P w = .ok (acc ++ ((List.range' i n).map f).toArray) w
 | 0,i,w,acc,_ => by simp [loadCellsFrom]
 | n + 1,i,w,acc,h => by
  have ha:(⟨c,o,none⟩ : Addr).add i = ⟨c,o + i,none⟩ := by simp only [Addr.add]; split <;> simp_all
  have h0 := h 0 (by omega)
  simp only [Nat.add_zero] at h0
  have ih := run_loadCells P (c := c) (o := o) f n (i + 1) w (acc.push (f i)) (fun j hj => by
   have := h (j + 1) (by omega)
   rw [show i + 1 + j = i + (j + 1) by omega]; exact this)
  simp only [loadCellsFrom,Sem.run_bind,run_load,ha,h0,Result.andThen_ok,ih]
  rw [List.range'_succ]
  simp
end
end Go.Mx
namespace Go.Mx
variable [Laid]
open Go.RowKit

inductive Opd where
 | t (n:Nat)
 | c (v:V)

inductive AOp where
 | mv (x:Opd)
 | pick (c x y:Opd)
 | newz (s:Nat) (cs:List V)
 | box (s:Nat) (x:Opd)
 | build (z:List V) (parts:List (Nat×Nat×Opd))
 | bsl (own:Bool) (s k n:Nat) (z:List V) (parts:List (Nat×Nat×Opd))
 | ld1 (x:Opd)
 | ldn (n:Nat) (x:Opd)
 | st (n:Nat) (x v:Opd)
 | bin (op:BinOp) (x y:Opd)
 | eqa (neg:Bool) (n:Nat) (offs:List (Bool×Nat)) (x y:Opd)
 | eqb (neg:Bool) (x y:Opd)
 | unot (x:Opd)
 | uneg (x:Opd)
 | conv (k:IntKind) (x:Opd)
 | fa (off:Nat) (x:Opd)
 | ia (k:Nat) (x i:Opd)
 | iaa (k len:Nat) (x i:Opd)
 | prt (off:Nat) (n:Option Nat) (x:Opd)
 | idx (k len:Nat) (agg:Bool) (x i:Opd)
 | ext (i:Nat) (x:Opd)
 | len (str:Bool) (x:Opd)
 | mm (mx:Bool) (x y:Opd)
 | sl (k:Nat) (x:Opd) (lo hi:Option Opd)
 | sla (k n:Nat) (x:Opd) (lo hi:Option Opd)
 | sl3 (k:Nat) (x:Opd) (lo hi:Option Opd) (mx:Opd)
 | cpy (k:Nat) (x y:Opd)
 | mk (s k bytes:Nat) (z:List V) (len:Opd)
 | app (s k bytes:Nat) (x y:Opd)
 | clo (f:FuncId) (caps:List Opd)
 | chk (x:Opd)
 | isn (x:Opd)
 | sh (left:Bool) (x y:Opd)
 | bnot (x:Opd)
 | bnd (f:FuncId) (x:Opd)
 | mm3 (mx:Bool) (x y z:Opd)
 | a64 (x y z:Opd)
 | six (x i:Opd)
 | sadd (x y:Opd)
 | scmp (neg:Bool) (x y:Opd)
 | ssl (x:Opd) (lo hi:Option Opd)
 | sof (x:Opd)
 | isi (neg:Bool) (x:Opd)

def cellsV:V→Option (List V)
 | .agg cs => some cs
 | .tup _ | .opt _ _ | .und | .no | .yld _ | .ub _ => none
 | v => some [v]

def okCell:V→Bool
 | .agg _ | .tup _ | .opt _ _ | .und | .no | .yld _ | .ub _ => false
 | _ => true

def unw (c:Bool):V→V
 | .opt c' v => if c' = c then v else .und
 | v => v

def pickV (b:Bool) (x y:V):V :=
 match unw b x,unw (!b) y with
 | .p (.bool q),.p (.bool q') => .p (.bool (bif b then q else q'))
 | x',y' => bif b then x' else y'
omit [Laid] in
theorem m_pick_t {x y:V}:pickV true x y = unw true x := by
 unfold pickV; split
 ·rename_i h _; rw [h]; rfl
 ·rfl
omit [Laid] in
theorem m_pick_f {x y:V}:pickV false x y = unw true y := by
 unfold pickV; split
 ·rename_i _ h; exact h.symm
 ·rfl

def fillV:List V→List (Nat×Nat×V)→Option (List V)
 | cs,[] => some cs
 | cs,(o,n,v) :: r =>
  match cellsV v with
  | some vs => if vs.length = n∧o + n≤cs.length then fillV (wr cs o vs) r else none
  | none => none

def allP:List V→Option (List Pv)
 | [] => some []
 | .p x :: r => (allP r).map (x :: ·)
 | _ :: _ => none

def chunk {α:Type} (k:Nat):Nat→List α→List (List α)
 | 0,_ => []
 | n + 1,l => l.take k :: chunk k n (l.drop k)

def BSt.ok:BSt→Bool
 | .dead => false
 | _ => true
def BSt.isLive:BSt→Bool
 | .live => true
 | _ => false

def behind (hp:List Blk):V→Option (List V)
 | .ptr t ver o => match hp[t]? with
  | some b => if b.ver = ver∧b.st.ok = true∧o≤b.cs.length then some (b.cs.drop o) else none
  | none => none
 | .ipt cs => some (cs.map .p)
 | _ => none

def eqCell:Bool→V→V→Option Bool
 | true,.p (.int k a),.p (.int k' b) => if k = k' then some (a == b) else none
 | false,.p (.bool a),.p (.bool b) => some (a == b)
 | _,_,_ => none
def eqCells (xs ys:List V):List (Bool×Nat)→Option Bool
 | [] => some true
 | (i,o) :: r => match xs[o]?,ys[o]? with
  | some x,some y => match eqCell i x y,eqCells xs ys r with
   | some a,some b => some (a && b)
   | _,_ => none
  | _,_ => none

def v_shl (k:IntKind) (a b:Int):Int := k.wrap (a * 2 ^ (min b.toNat k.bits))
def v_shr (k:IntKind) (a b:Int):Int := a.fdiv (2 ^ (min b.toNat k.bits))
def sh2 (left:Bool) (k:IntKind) (a b:Int):Int := match left with | true => v_shl k a b | false => v_shr k a b
def v_and (k:IntKind) (a b:Int):Int := bits .and k a b
def v_or (k:IntKind) (a b:Int):Int := bits .or k a b
def v_xor (k:IntKind) (a b:Int):Int := bits .xor k a b
def v_andn (k:IntKind) (a b:Int):Int := bits .andNot k a b
def v_bnot (k:IntKind) (a:Int):Int := bits .xor k (if k.signed then -1 else k.max) a
def mm2 (mx:Bool) (a b:Int):Int := if mx then (if b > a then b else a) else (if b < a then b else a)

def binI (op:BinOp) (k:IntKind) (a b:Int):Option Pv :=
 match op with
 | .add => some (.int k (k.wrap (a + b)))
 | .sub => some (.int k (k.wrap (a - b)))
 | .mul => some (.int k (k.wrap (a * b)))
 | .quo => if b = 0 then none else some (.int k (k.wrap (a.tdiv b)))
 | .rem => if b = 0 then none else some (.int k (a.tmod b))
 | .eql => some (.bool (a == b))
 | .neq => some (.bool (a != b))
 | .lss => some (.bool (a < b))
 | .leq => some (.bool (a≤b))
 | .gtr => some (.bool (a > b))
 | .geq => some (.bool (a ≥ b))
 | .and => some (.int k (v_and k a b))
 | .or => some (.int k (v_or k a b))
 | .xor => some (.int k (v_xor k a b))
 | .andNot => some (.int k (v_andn k a b))
 | _ => none

def sliceP (hp:List Blk) (k:Nat):V→Option (List (List Pv))
 | .p (.sl _ [] _) => some []
 | .p (.sl k' es _) => if k' = k then some es else none
 | .ref t ver o n k' => match hp[t]? with
  | some b => if b.ver = ver∧b.st.ok = true∧k' = k∧o + n * k≤b.cs.length then (allP ((b.cs.drop o).take (n * k))).map (chunk k n) else none
  | none => none
 | _ => none

def part? (cs:List V) (off:Nat):Option Nat→Option V
 | none => cs[off]?
 | some n => if off + n≤cs.length then some (.agg ((cs.drop off).take n)) else none

def bound (g:Opd→V) (d:Int):Option Opd→Option Int
 | none => some d
 | some x => match g x with
  | .p (.int _ n) => some n
  | _ => none

def v_seq (a b:ByteArray):Bool := a.data.toList == b.data.toList
def byteV:List Pv→Option UInt8
 | [.int .u8 n] => if 0≤n∧n < 256 then some (UInt8.ofNat n.toNat) else none
 | _ => none
def bytesV (es:List (List Pv)):Option (List UInt8) := es.mapM byteV
def astep (hp:List Blk) (g:Opd→V):AOp→Option (V×List Blk)
 | .mv x => some (g x,hp)
 | .pick c x y => match g c with
  | .p (.bool b) => some (pickV b (g x) (g y),hp)
  | _ => none
 | .newz s cs => match hp[s]? with
  | some b => some (.ptr s (b.ver + 1) 0,hp.set s ⟨b.ver + 1,.live,cs⟩)
  | none => none
 | .box s x => match hp[s]?,cellsV (g x) with
  | some b,some cs => some (.ptr s (b.ver + 1) 0,hp.set s ⟨b.ver + 1,.live,cs⟩)
  | _,_ => none
 | .build z parts => match fillV z (parts.map fun p => (p.1,p.2.1,g p.2.2)) with
  | some cs => some (.agg cs,hp)
  | none => none
 | .bsl own s k n z parts => match fillV z (parts.map fun p => (p.1,p.2.1,g p.2.2)) with
  | some cs => if own then
    match hp[s]? with
    | some b => some (.ref s (b.ver + 1) 0 n k,hp.set s ⟨b.ver + 1,.live,cs⟩)
    | none => none
   else match allP cs with
    | some ps => some (.p (.sl k (chunk k n ps) true),hp)
    | none => none
  | none => none
 | .ld1 x => match behind hp (g x) with
  | some cs => (cs[0]?).map (·,hp)
  | none => none
 | .ldn n x => match behind hp (g x) with
  | some cs => if n≤cs.length then some (.agg (cs.take n),hp) else none
  | none => none
 | .st n x v => match g x,cellsV (g v) with
  | .ptr t ver o,some vs => match hp[t]? with
   | some b => if b.ver = ver∧b.st.isLive = true∧vs.length = n∧o + n≤b.cs.length∧vs.all okCell = true then some (.und,hp.set t ⟨ver,.live,wr b.cs o vs⟩) else none
   | none => none
  | _,_ => none
 | .bin op x y => match g x,g y with
  | .p (.int k a),.p (.int k' b) => if k = k' then (binI op k a b).map (.p ·,hp) else none
  | _,_ => none
 | .eqa neg n offs x y => match g x,g y with
  | .agg xs,.agg ys => if xs.length = n∧ys.length = n then (eqCells xs ys offs).map fun b => (.p (.bool (if neg then !b else b)),hp) else none
  | _,_ => none
 | .eqb neg x y => match g x,g y with
  | .p (.bool a),.p (.bool b) => some (.p (.bool (if neg then !(a == b) else a == b)),hp)
  | _,_ => none
 | .unot x => match g x with
  | .p (.bool b) => some (.p (.bool !b),hp)
  | _ => none
 | .uneg x => match g x with
  | .p (.int k n) => some (.p (.int k (k.wrap (0 - n))),hp)
  | _ => none
 | .conv k x => match g x with
  | .p (.int _ n) => some (.p (.int k (k.wrap n)),hp)
  | _ => none
 | .fa off x => match g x with
  | .ptr t ver o => some (.ptr t ver (o + off),hp)
  | .ipt cs => some (.ipt (cs.drop off),hp)
  | _ => none
 | .ia k x i => match g x,g i with
  | .p (.sl k' es _),.p (.int _ n) => if 0≤n∧n < es.length∧k' = k then some (.ipt (es.getD n.toNat []),hp) else none
  | .ref t ver o len k',.p (.int _ n) => if 0≤n∧n < len∧k' = k then some (.ptr t ver (o + n.toNat * k),hp) else none
  | _,_ => none
 | .iaa k len x i => match g x,g i with
  | .ptr t ver o,.p (.int _ n) => if 0≤n∧n < len then some (.ptr t ver (o + n.toNat * k),hp) else none
  | .ipt cs,.p (.int _ n) => if 0≤n∧n < len then some (.ipt (cs.drop (n.toNat * k)),hp) else none
  | _,_ => none
 | .prt off n x => match g x with
  | .agg cs => (part? cs off n).map (·,hp)
  | _ => none
 | .idx k len agg x i => match g x,g i with
  | .agg cs,.p (.int _ n) => if 0≤n∧n < len then (part? cs (n.toNat * k) (if agg then some k else none)).map (·,hp) else none
  | _,_ => none
 | .ext i x => match g x with
  | .tup vs => (vs[i]?).map (·,hp)
  | _ => none
 | .len false x => match g x with
  | .p (.sl _ es _) => some (.p (.int .i64 es.length),hp)
  | .ref _ _ _ n _ => some (.p (.int .i64 n),hp)
  | _ => none
 | .len true x => match g x with
  | .p (.str s) => some (.p (.int .i64 s.size),hp)
  | _ => none
 | .mm mx x y => match g x,g y with
  | .p (.int k a),.p (.int _ b) => some (.p (.int k (if mx then (if b > a then b else a) else (if b < a then b else a))),hp)
  | _,_ => none
 | .sl k x lo hi => match g x with
  | .p (.sl k' es full) => match bound g 0 lo,bound g es.length hi with
   | some l,some h => if 0≤l∧l≤h∧h≤es.length∧(k' = k ∨ es.length = 0) then some (.p (.sl k' ((es.drop l.toNat).take (h.toNat - l.toNat)) (full && decide (h = es.length))),hp) else none
   | _,_ => none
  | .ref t ver o n k' => match bound g 0 lo,bound g n hi with
   | some l,some h => if 0≤l∧l < h∧h≤n∧k' = k then some (.ref t ver (o + l.toNat * k) (h.toNat - l.toNat) k,hp) else none
   | _,_ => none
  | _ => none
 | .sla k n x lo hi => match g x with
  | .ptr t ver o => match bound g 0 lo,bound g n hi,hp[t]? with
   | some l,some h,some b => if b.ver = ver∧b.st.ok = true∧o + n * k≤b.cs.length∧0≤l∧l < h∧h≤n then some (.ref t ver (o + l.toNat * k) (h.toNat - l.toNat) k,hp) else none
   | _,_,_ => none
  | .ipt cs => match bound g 0 lo,bound g n hi with
   | some l,some h => if n * k≤cs.length∧0≤l∧l < h∧h≤n then some (.p (.sl k (((chunk k n cs).drop l.toNat).take (h.toNat - l.toNat)) (decide (h = n))),hp) else none
   | _,_ => none
  | _ => none
 | .sl3 k x lo hi mx => match g x with
  | .p (.sl k' es _) => match bound g 0 lo,bound g (-1) hi,bound g 0 (some mx) with
   | some l,some h,some m => if 0≤l∧l≤h∧h≤m∧m≤es.length∧(k' = k ∨ es.length = 0) then some (.p (.sl k' ((es.drop l.toNat).take (h.toNat - l.toNat)) (decide (m = h))),hp) else none
   | _,_,_ => none
  | _ => none
 | .cpy k x y => match sliceP hp k (g y),g x with
  | some new,.ref t ver o n k' => match hp[t]? with
   | some b => if b.ver = ver∧b.st.isLive = true∧k' = k∧o + n * k≤b.cs.length then
     some (.p (.int .i64 (min new.length n:Nat)),hp.set t ⟨ver,.live,wr b.cs o ((new.take (min new.length n)).flatten.map .p)⟩) else none
   | none => none
  | _,_ => none
 | .mk s k bytes z len => match hp[s]?,g len with
  | some b,.p (.int .i64 n) => if 0≤n∧bytes * n≤281474976710656∧n≤9223372036854775807 then some (.ref s (b.ver + 1) 0 n.toNat k,hp.set s ⟨b.ver + 1,.live,(List.replicate n.toNat z).flatten⟩) else none
  | _,_ => none
 | .app s k bytes x y => match sliceP hp k (g y) with
  | none => none
  | some new => match g x with
   | .p (.sl _ [] true) => match hp[s]? with
    | some b => if new.length * bytes≤140737488355328 then some (.ref s (b.ver + 1) 0 new.length k,hp.set s ⟨b.ver + 1,.live,new.flatten.map .p⟩) else none
    | none => none
   | .p (.sl k' (e :: es) true) => match hp[s]? with
    | some b => if k' = k∧0 < new.length∧(es.length + 1 + new.length) * bytes≤140737488355328 then some (.ref s (b.ver + 1) 0 (es.length + 1 + new.length) k,hp.set s ⟨b.ver + 1,.live,((e :: es) ++ new).flatten.map .p⟩) else none
    | none => none
   | .ref t ver 0 n k' => match hp[t]? with
    | some b => if b.ver = ver∧b.st.isLive = true∧k' = k∧b.cs.length = n * k∧(n + new.length) * bytes≤140737488355328 then
      some (.ref t (ver + 1) 0 (n + new.length) k,hp.set t ⟨ver + 1,.live,b.cs ++ (new.flatten.map .p)⟩) else none
    | none => none
   | _ => none
 | .clo f caps => some (.clo f (caps.map g),hp)
 | .isn x => match g x with
  | .p (.sl _ es _) => some (.ub es.length,hp)
  | .ref _ _ _ n _ => some (.ub n,hp)
  | _ => none
 | .sh left x y => match g x,g y with
  | .p (.int k a),.p (.int _ b) => if 0≤b then some (.p (.int k (sh2 left k a b)),hp) else none
  | _,_ => none
 | .bnot x => match g x with
  | .p (.int k a) => some (.p (.int k (v_bnot k a)),hp)
  | _ => none
 | .bnd f x => match g x with
  | .agg cs => match allP cs with
   | some ps => some (.p (.fn f [ps]),hp)
   | none => none
  | _ => none
 | .mm3 mx x y z => match g x,g y,g z with
  | .p (.int k a),.p (.int _ b),.p (.int _ c) => some (.p (.int k (mm2 mx (mm2 mx a b) c)),hp)
  | _,_,_ => none
 | .a64 x y z => match g x,g y,g z with
  | .p (.int .u64 a),.p (.int .u64 b),.p (.int .u64 c) => if 0≤a∧0≤b∧0≤c∧c≤1 then some (.tup [.p (.int .u64 ((a + b + c) % 18446744073709551616)),.p (.int .u64 ((a + b + c) / 18446744073709551616))],hp) else none
  | _,_,_ => none
 | .six x i => match g x,g i with
  | .p (.str s),.p (.int _ n) => if 0≤n then match s[n.toNat]? with
   | some b => some (.p (.int .u8 b.toNat),hp)
   | none => none
   else none
  | _,_ => none
 | .isi neg x => match g x with
  | .p (.ifc b) => some (.p (.bool (if neg then !b else b)),hp)
  | _ => none
 | .sadd x y => match g x,g y with
  | .p (.str a),.p (.str b) => if a.size + b.size≤9223372036854775807 then some (.p (.str (a ++ b)),hp) else none
  | _,_ => none
 | .scmp neg x y => match g x,g y with
  | .p (.str a),.p (.str b) => some (.p (.bool (if neg then !(v_seq a b) else v_seq a b)),hp)
  | _,_ => none
 | .ssl x lo hi => match g x with
  | .p (.str s) => match bound g 0 lo,bound g s.size hi with
   | some l,some h => if 0≤l∧l≤h∧h≤s.size then some (.p (.str (s.extract l.toNat h.toNat)),hp) else none
   | _,_ => none
  | _ => none
 | .sof x => match g x with
  | .p (.sl k es _) => match bytesV es with
   | some l => if k = 1 ∨ es.length = 0 then some (.p (.str ⟨l.toArray⟩),hp) else none
   | none => none
  | _ => none
 | .chk x => match g x with
  | .ptr t ver o => some (.ptr t ver o,hp)
  | .ipt cs => some (.ipt cs,hp)
  | _ => none

def St.get (st:St):Opd→V
 | .t n => (st.ts[n]?).getD .und
 | .c v => v
end Go.Mx
namespace Go.Mx
variable [Laid]
open Go.RowKit

def constC:Value→V
 | .int k n => .p (.int k n)
 | .bool b => .p (.bool b)
 | .string s => .p (.str s)
 | .slice none 0 0 => .p (.sl 0 [] true)
 | _ => .und
def constV:Value→V
 | .agg cs => .agg (cs.toList.map constC)
 | v => constC v

def cO:Operand→Opd
 | .tmp t => .t t
 | .const v => .c (constV v)
 | .func f => if f < 1000000000 then .c (.clo f []) else .c .und
 | .global g => match Laid.G g with
  | some cs => .c (.ipt cs)
  | none => .c .und

def cG:Operand→Opd
 | .func f => if f < 1000000000 then .c (.p (.fn f [])) else .c .und
 | x => cO x

def isAggD:TypeDesc→Bool
 | .struct _ => true
 | .array _ _ => true
 | _ => false

def sz? (P:Program) (t:TypeId):Option Nat := (P.info? t).map (·.size)
def agg? (P:Program) (t:TypeId):Option Bool := (P.underlying t).map isAggD
def zero? (P:Program) (t:TypeId):Option (List V) := ((P.info? t).bind (·.zero)).map fun z => z.cells.toList.map constC

def eqOffs (P:Program):Nat→TypeId→Nat→Option (List (Bool×Nat))
 | 0,_,_ => none
 | d + 1,t,off =>
  match P.underlying t,sz? P t with
  | some (.int _),some _ => some [(true,off)]
  | some .bool,some _ => some [(false,off)]
  | some (.struct fields),some nt => if P.stoodInHeld t then none else
    fields.toList.foldr (fun f acc => match acc,sz? P f.type,(if f.name = "_" then none else eqOffs P d f.type (off + f.offset)) with
     | some r,some n,some l => if 0 < n∧f.offset + n≤nt then some (l ++ r) else none
     | _,_,_ => none) (some [])
  | some (.array len elem),some nt => match sz? P elem with
   | some n => if 0 < n∧len * n≤nt then (List.range len).foldr (fun i acc => match acc,eqOffs P d elem (off + i * n) with | some r,some l => some (l ++ r) | _,_ => none) (some []) else none
   | none => none
  | _,_ => none

def places (P:Program) (fields:Array Field):Option (List (Nat×Nat)) := fields.toList.mapM fun f => (sz? P f.type).map fun n => (f.offset,n)

def partOf (ps:List (Nat×Nat)) (p:Nat×Operand):Option (Nat×Nat×Opd) := match ps[p.1]? with
 | some q => some (q.1,q.2,cO p.2)
 | none => none

def callable0 (P:Program) (f:FuncId):Bool :=
 match P.funcs[f]? with
 | some fn => fn.body.isSome && !(fn.name == "runtime.NumGoroutine")
 | none => false

def callable (P:Program) (f:FuncId):Bool := Nat.blt f 1000000000 && callable0 P f
def callI (P:Program) (f:FuncId):Bool := callable0 P (bif Nat.blt f 1000000000 then f else f - 1000000000)

def sameOpd:Operand→Operand→Bool
 | .tmp a,.tmp b => a == b
 | .const (.int k a),.const (.int k' b) => k == k' && a == b
 | _,_ => false

def isAdd64 (P:Program) (f:FuncId):Bool :=
 match P.funcs[f]? with
 | some fn => fn.name == "math/bits.Add64" && fn.body.isNone && (Extern.findNext fn).isNone
 | none => false

def badOp:AOp := .ld1 (.c (.p (.bool false)))

def cOp (P:Program) (s:Nat) (own:Bool) (o:Oper):Option AOp :=
 match o.op with
 | .move x | .assign x => some (.mv (cO x))
 | .pick c a b => some (.pick (cO c) (cO a) (cO b))
 | .nilCheck x => some (.chk (cO x))
 | .alloc e => (zero? P e).map (.newz s ·)
 | .box _ x => some (.box s (cO x))
 | .build t parts => match zero? P t,P.underlying t with
  | some z,some (.struct fields) => match places P fields with
   | some ps => (parts.toList.mapM (partOf ps)).map (.build z ·)
   | none => none
  | some z,some (.array _ e) => match sz? P e with
   | some n => some (.build z (parts.toList.map fun p => (p.1 * n,n,cO p.2)))
   | none => none
  | _,_ => none
 | .buildSlice t n parts => match P.underlying t with
  | some (.slice e) => match sz? P e,zero? P e with
   | some k,some z => if n * k≤16777216∧0 < k∧z.length = k then some (.bsl own s k n (List.replicate n z).flatten (parts.toList.map fun p => (p.1 * k,k,cO p.2))) else none
   | _,_ => none
  | _ => none
 | .load t x => match agg? P t,sz? P t with
  | some true,some n => some (.ldn n (cO x))
  | some false,some _ => some (.ld1 (cO x))
  | _,_ => none
 | .store t x v => (sz? P t).map fun n => .st n (cO x) (cO v)
 | .binOp op t x y _ => match op,P.underlying t with
  | .eql,some (.int _) | .neq,some (.int _) => some (.bin op (cO x) (cO y))
  | .eql,some (.interface _) => match y with
   | .const .nilIface => some (.isi false (cO x))
   | _ => none
  | .neq,some (.interface _) => match y with
   | .const .nilIface => some (.isi true (cO x))
   | _ => none
  | .eql,some .string => some (.scmp false (cO x) (cO y))
  | .neq,some .string => some (.scmp true (cO x) (cO y))
  | .add,some .string => some (.sadd (cO x) (cO y))
  | .eql,some .bool => some (.eqb false (cO x) (cO y))
  | .neq,some .bool => some (.eqb true (cO x) (cO y))
  | .eql,some (.slice _) => match y with
   | .const (.slice none 0 0) => some (.isn (cO x))
   | _ => none
  | .eql,some _ => if P.eqGuardType P.depth t then none else match eqOffs P 8 t 0,sz? P t with
   | some l,some n => some (.eqa false n l (cO x) (cO y))
   | _,_ => none
  | .neq,some _ => if P.eqGuardType P.depth t then none else match eqOffs P 8 t 0,sz? P t with
   | some l,some n => some (.eqa true n l (cO x) (cO y))
   | _,_ => none
  | .shl,_ => some (.sh true (cO x) (cO y))
  | .shr,_ => some (.sh false (cO x) (cO y))
  | _,_ => some (.bin op (cO x) (cO y))
 | .unOp .not _ x => some (.unot (cO x))
 | .unOp .neg _ x => some (.uneg (cO x))
 | .unOp .xor _ x => some (.bnot (cO x))
 | .convert src dst x => match P.underlying src,P.underlying dst with
  | some (.int _),some (.int k) => some (.conv k (cO x))
  | some (.slice e),some .string => match P.underlying e with
   | some (.int .u8) => if sz? P e = some 1 then some (.sof (cO x)) else none
   | _ => none
  | _,_ => none
 | .fieldAddr t x f => match P.underlying t with
  | some (.struct fields) => match fields[f]? with
   | some fl => match sz? P fl.type with
    | some (_ + 1) => some (.fa fl.offset (cO x))
    | _ => none
   | none => none
  | _ => none
 | .indexAddr t x i => match P.underlying t with
  | some (.slice e) => (sz? P e).map fun k => .ia k (cO x) (cO i)
  | some (.array len e) => (sz? P e).map fun k => .iaa k len (cO x) (cO i)
  | _ => none
 | .field t x f => match P.underlying t with
  | some (.struct fields) => match fields[f]? with
   | some fl => match agg? P fl.type,sz? P fl.type with
    | some true,some n => some (.prt fl.offset (some n) (cO x))
    | some false,some _ => some (.prt fl.offset none (cO x))
    | _,_ => none
   | none => none
  | _ => none
 | .index t x i => match P.underlying t with
  | some .string => some (.six (cO x) (cO i))
  | some (.array len e) => match agg? P e,sz? P e with
   | some b,some k => some (.idx k len b (cO x) (cO i))
   | _,_ => none
  | _ => none
 | .extract x i => some (.ext i (cO x))
 | .slice t x lo hi none => match P.underlying t with
  | some .string => some (.ssl (cO x) (lo.map cO) (hi.map cO))
  | some (.slice e) => (sz? P e).map fun k => .sl k (cO x) (lo.map cO) (hi.map cO)
  | some (.array n e) => (sz? P e).map fun k => .sla k n (cO x) (lo.map cO) (hi.map cO)
  | _ => none
 | .slice t x lo hi (some mx) => match P.underlying t with
  | some (.slice e) => (sz? P e).map fun k => .sl3 k (cO x) (lo.map cO) (hi.map cO) (cO mx)
  | _ => none
 | .makeSlice t l c => match P.underlying t with
  | some (.slice e) => match P.info? e,zero? P e with
   | some i,some z => if 0 < i.size∧z.length = i.size∧sameOpd l c = true then some (.mk s i.size i.bytes z (cO l)) else none
   | _,_ => none
  | _ => none
 | .makeFunc (.func f) first caps => if f < 1000000000 then (if first.size = 0 then some (.clo f (caps.toList.map cO)) else match first.toList,caps.toList with
   | [x],[] => some (.bnd (bmOf f) (cO x))
   | _,_ => none) else none
 | .call c => match c.callee with
  | .value (.func f) => match isAdd64 P f,c.args.toList with
   | true,[x,y,z] => some (.a64 (cO x) (cO y) (cO z))
   | _,_ => some badOp
  | .builtin .len => match c.argTypes[0]?,c.args.toList with
   | some t,[x] => match P.underlying t with
    | some .string => some (.len true (cO x))
    | some (.slice _) => some (.len false (cO x))
    | some (.array n _) => some (.mv (.c (.p (.int .i64 n))))
    | _ => none
   | _,_ => none
  | .builtin .min => match c.args.toList with
   | [x,y] => some (.mm false (cO x) (cO y))
   | [x,y,z] => some (.mm3 false (cO x) (cO y) (cO z))
   | _ => none
  | .builtin .max => match c.args.toList with
   | [x,y] => some (.mm true (cO x) (cO y))
   | [x,y,z] => some (.mm3 true (cO x) (cO y) (cO z))
   | _ => none
  | .builtin .append => match c.argTypes.toList,c.args.toList with
   | [t,t'],[x,y] => match P.underlying t,P.underlying t' with
    | some (.slice e),some (.slice _) => match P.info? e,zero? P e with
     | some i,some z => if t' = t∧0 < i.size∧0 < i.bytes∧z.length = i.size then some (.app s i.size i.bytes (cO x) (cO y)) else none
     | _,_ => none
    | _,_ => none
   | _,_ => none
  | .builtin .copy => match c.argTypes.toList,c.args.toList with
   | [t,t'],[x,y] => match P.underlying t,P.underlying t' with
    | some (.slice e),some (.slice _) => (sz? P e).map fun k => .cpy k (cO x) (cO y)
    | _,_ => none
   | _,_ => none
  | _ => some badOp
 | _ => some badOp

inductive AI where
 | op (o:AOp)
 | call (s:Nat) (f:FuncId) (args:List Opd)
 | callv (s:Nat) (x:Opd) (args:List Opd)

structure AIns where
 dst:Option Nat
 guard:Option (Option Nat×Bool)
 op:AI

inductive ACode where
 | skip
 | reg (ops:List AIns)
 | regd (ops:List AIns) (pairs:List (Nat×Nat))
 | seq (x y:ACode)
 | cond (c:Opd) (x y:ACode)
 | block (id:Nat) (x:ACode)
 | loop (x:ACode)
 | exit (id:Nat)
 | ret
 | rng (g:Opd) (ps bs:List Nat) (x y:ACode)
 | rngc (f:FuncId) (args:List Opd) (t:Nat) (ps bs:List Nat) (x y:ACode)

def siteOf (o:Oper):List Nat :=
 match o.op,o.dst with
 | .alloc _,some d | .box _ _,some d | .buildSlice ..,some d | .makeSlice ..,some d => [d]
 | .call c,some d => match c.callee with
  | .builtin .append => [d]
  | .builtin _ => []
  | _ => [d]
 | _,_ => []
def sitesOf:Code→List Nat
 | .region _ ops _ => ops.toList.flatMap siteOf
 | .seq a b => sitesOf a ++ sitesOf b
 | .cond _ a b => sitesOf a ++ sitesOf b
 | .block _ a => sitesOf a
 | .loop a => sitesOf a
 | .rangeFunc _ _ a b => sitesOf a ++ sitesOf b
 | .scope a => sitesOf a
 | _ => []

def appendsTo (ops:Array Oper) (d:Option Nat):Bool :=
 match d with
 | none => false
 | some d => ops.any fun o => match o.op with
  | .call { callee := .builtin .append,args,.. } => (match (args[0]? : Option Operand) with | some (.tmp t) => t == d | _ => false)
  | _ => false

def laysTo (P:Program) (ops:Array Oper) (o:Oper):Bool :=
 match o.op,o.dst with
 | .buildSlice t _ _,some d => (match P.underlying t with
  | some (.slice e) => (match P.underlying e with
   | some .string => ops.any fun q => match q.op with
    | .move (.tmp t) | .assign (.tmp t) => t == d
    | _ => false
   | _ => false)
  | _ => false)
 | _,_ => false
def ownsIt (P:Program) (ops:Array Oper) (o:Oper):Bool := appendsTo ops o.dst || laysTo P ops o
def cAI (P:Program) (s:Nat) (own:Bool) (o:Oper):Option AI :=
 match o.op with
 | .call c => match c.callee with
  | .value (.func f) => if callable P f then some (.call s f (c.args.toList.map cO)) else (cOp P s own o).map .op
  | .value x => some (.callv s (cO x) (c.args.toList.map cO))
  | _ => (cOp P s own o).map .op
 | _ => (cOp P s own o).map .op

def cIns (P:Program) (sites:List Nat) (ops:Array Oper) (o:Oper):Option AIns :=
 match cAI P (match o.dst with | some d => sites.idxOf d | none => 0) (ownsIt P ops o) o with
 | some op => some { dst := o.dst,guard := o.guard.map fun g => ((ops[g.1]?).bind (·.dst),g.2),op }
 | none => none
end Go.Mx
namespace Go.Mx
variable [Laid]
open Go.RowKit

section
variable {P:Program} {m:Nat} {w0:World} {S0 Jo:Nat→Prop} {D:Bs} {Φ:Plc} {S:Nat→Prop} {st:St} {a:Act} {w:World}

omit [Laid] in
theorem rel_unw {c:Bool} {v:V} {x:Value} (h:VRel Φ S w v x) (hc:c = true):VRel Φ S w (unw c v) x := by
 cases h with
 | opt b v x h =>
  simp only [unw]
  split
  ·rename_i e; exact h (by rw [e,hc])
  ·exact .und _
 | p _ _ h => exact .p _ _ h
 | agg cs arr hn h => exact .agg cs arr hn h
 | tup cs arr hn h => exact .tup cs arr hn h
 | ptr t ver o c sz h => exact .ptr t ver o c sz h
 | ipt cs b o cell hs h1 h2 => exact .ipt cs b o cell hs h1 h2
 | ref t ver o n k c sz cap h hn hc => exact .ref t ver o n k c sz cap h hn hc
 | refv t ver k a h => exact .refv t ver k a h
 | clo f cap caps hf hn h => exact .clo f cap caps hf hn h
 | und _ => exact .und _
 | no => exact .no
 | yld l => exact .yld l
 | ub n b h => exact .ub n b h

omit [Laid] in
theorem inv_int {k:IntKind} {n:Int} {x:Value} (h:VRel Φ S w (.p (.int k n)) x):x = .int k n := by cases h with | p _ _ h => cases h; rfl
omit [Laid] in
theorem inv_bool {b:Bool} {x:Value} (h:VRel Φ S w (.p (.bool b)) x):x = .bool b := by cases h with | p _ _ h => cases h; rfl
omit [Laid] in
theorem inv_ub {n:Nat} {x:Value} (h:VRel Φ S w (.ub n) x):∃ b,x = .bool b∧(b = true→n = 0) := by cases h with | ub _ b hn => exact ⟨b,rfl,hn⟩
omit [Laid] in
theorem inv_str {b:ByteArray} {x:Value} (h:VRel Φ S w (.p (.str b)) x):x = .string b := by cases h with | p _ _ h => cases h; rfl
omit [Laid] in
theorem inv_agg {cs:List V} {x:Value} (h:VRel Φ S w (.agg cs) x):∃ arr:Array Value,x = .agg arr∧arr.size = cs.length∧∀ i c,cs[i]? = some c→VRel Φ S w c (arr.getD i undef) := by
 cases h with | agg cs arr hn h => exact ⟨arr,rfl,hn,h⟩
omit [Laid] in
theorem inv_tup {cs:List V} {x:Value} (h:VRel Φ S w (.tup cs) x):∃ arr:Array Value,x = .tuple arr∧arr.size = cs.length∧∀ i c,cs[i]? = some c→VRel Φ S w c (arr.getD i undef) := by
 cases h with | tup cs arr hn h => exact ⟨arr,rfl,hn,h⟩
omit [Laid] in
theorem inv_ptr {t ver o:Nat} {x:Value} (h:VRel Φ S w (.ptr t ver o) x):∃ c sz,Φ t ver = some (.blk c sz)∧x = .pointer (some ⟨c,o,none⟩) := by
 cases h with | ptr t ver o c sz h => exact ⟨c,sz,h,rfl⟩
omit [Laid] in
theorem inv_ipt {cs:List Pv} {x:Value} (h:VRel Φ S w (.ipt cs) x):∃ (b o:Nat) (cell:Nat→Value),x = .pointer (some ⟨b,o,none⟩)∧S b∧(∀ j x,cs[j]? = some x→w.cell? ⟨b,o + j,none⟩ = some (cell j)) ∧
  (∀ j x,cs[j]? = some x→PRel S w x (cell j)) := by
 cases h with | ipt cs b o cell hs h1 h2 => exact ⟨b,o,cell,rfl,hs,h1,h2⟩

omit [Laid] in
theorem rel_constC (v:Value):VRel Φ S w (constC v) v := by
 unfold constC
 split
 ·exact .p _ _ (.int _ _)
 ·exact .p _ _ (.bool _)
 ·exact .p _ _ (.str _)
 ·exact .p _ _ (.slnil _ _)
 ·exact .und _
omit [Laid] in
theorem rel_constV (v:Value):VRel Φ S w (constV v) v := by
 unfold constV
 split
 ·rename_i cs
  refine .agg _ _ (by simp) fun i c h => ?_
  rw [List.getElem?_map] at h
  cases h' : cs.toList[i]? with
  | none => simp [h'] at h
  | some u =>
   simp only [h',Option.map_some,sJ] at h
   subst h
   have:cs.getD i undef = u := by
    obtain ⟨hi,e⟩ := List.getElem?_eq_some_iff.1 h'
    simp at hi
    simp [Array.getD,hi]; simpa using e
   rw [this]; exact rel_constC u
 ·exact rel_constC v

theorem rel_get (h:Sim m w0 S0 Jo D Φ S st a w) (x:Operand):VRel Φ S w (st.get (cO x)) (a.eval x) := by
 cases x with
 | tmp t =>
  simp only [cO,St.get,Act.eval]
  cases ht:st.ts[t]? with
  | none => exact .und _
  | some v => exact h.ts t v ht
 | const v => exact rel_constV v
 | global g =>
  simp only [cO,Act.eval]
  cases hg:Laid.G g with
  | none => exact .und _
  | some cs => exact h.glob.rel hg
 | func f =>
  simp only [cO]
  split
  ·rename_i hf; exact .clo f [] _ hf rfl (fun i c h => by simp at h)
  ·exact .und _

theorem rel_getG (h:Sim m w0 S0 Jo D Φ S st a w) (x:Operand):VRel Φ S w (st.get (cG x)) (a.eval x) := by
 cases x with
 | func f =>
  simp only [cG]
  split
  ·rename_i hf
   exact .p _ _ (.fn f [] #[] hf (fun _ => 0) (fun _ => 0) (fun _ _ => undef) rfl (fun i e h => by simp at h) (fun i e h => by simp at h) (fun i j e x h => by simp at h) (fun i j e x h => by simp at h))
  ·exact .und _
 | tmp t => exact rel_get h (.tmp t)
 | const v => exact rel_get h (.const v)
 | global g => exact rel_get h (.global g)

omit [Laid] in
theorem sz_run {t n:Nat} (h:sz? P t = some n) (w:World):(sizeOf t).run P w = .ok n w := by
 unfold sz? at h
 cases hi:P.info? t with
 | none => simp [hi] at h
 | some i => simp [hi] at h; subst h; simp [sizeOf,typeInfo,hi]
omit [Laid] in
theorem und_some {t:TypeId} {b:Bool} (h:agg? P t = some b):∃ d,P.underlying t = some d∧isAggD d = b := by
 unfold agg? at h
 cases hi:P.underlying t with
 | none => simp [hi] at h
 | some d => exact ⟨d,rfl,by simpa [hi] using h⟩
omit [Laid] in
theorem agg_run {t:TypeId} {b:Bool} (h:agg? P t = some b) (w:World):(isAgg t).run P w = .ok b w := by
 obtain ⟨d,hd,rfl⟩ := und_some h
 unfold isAgg
 simp only [Sem.run_bind,run_underlying hd,Result.andThen_ok]
 cases d <;> rfl
omit [Laid] in
theorem zero_run {t:TypeId} {z:List V} (h:zero? P t = some z):∃ (i:TypeInfo) (u:Value),P.info? t = some i∧i.zero = some u∧z = u.cells.toList.map constC∧∀ w,(zeroValue t).run P w = .ok u w := by
 unfold zero? at h
 cases hi:P.info? t with
 | none => simp [hi] at h
 | some i =>
  cases hz:i.zero with
  | none => simp [hi,hz] at h
  | some u =>
   simp [hi,hz] at h
   exact ⟨i,u,rfl,hz,h.symm,fun w => by simp [zeroValue,typeInfo,hi,hz]⟩

def Cells (Φ:Plc) (S:Nat→Prop) (w:World) (cs:List V) (arr:Array Value):Prop := arr.size = cs.length∧∀ i c,cs[i]? = some c→VRel Φ S w c (arr.getD i undef)

omit [Laid] in
theorem cells_const (arr:Array Value):Cells Φ S w (arr.toList.map constC) arr := by
 refine ⟨by simp,fun i c h => ?_⟩
 rw [List.getElem?_map] at h
 cases h' : arr.toList[i]? with
 | none => simp [h'] at h
 | some u =>
  simp only [h',Option.map_some,sJ] at h
  subst h
  have:arr.getD i undef = u := by
   obtain ⟨hi,e⟩ := List.getElem?_eq_some_iff.1 h'
   simp at hi
   simp [Array.getD,hi]; simpa using e
  rw [this]; exact rel_constC u

omit [Laid] in
theorem cells_of {v:V} {x:Value} {cs:List V} (h:VRel Φ S w v x) (hc:cellsV v = some cs):Cells Φ S w cs x.cells := by
 have one:∀ (v:V) (x:Value),VRel Φ S w v x→x.cells = #[x]→Cells Φ S w [v] x.cells := by
  intro v x h e
  rw [e]
  refine ⟨rfl,fun i c hc => ?_⟩
  match i with
  | 0 => simp at hc; subst hc; exact h
  | i + 1 => simp at hc
 cases h with
 | agg cs' arr hn h' => simp [cellsV] at hc; subst hc; exact ⟨hn,h'⟩
 | p y v hp =>
  cases hp <;> simp [cellsV] at hc <;> subst hc <;> refine one _ _ ?_ rfl <;> refine .p _ _ ?_
  ·exact .int _ _
  ·exact .bool _
  ·exact .str _
  ·exact .slnil _ _
  ·exact .sl0 _ _ _ _ ‹_›
  ·exact .sl _ _ _ _ _ _ _ _ ‹_› ‹_› ‹_› ‹_› ‹_› ‹_› ‹_› ‹_›
  ·exact .fn _ _ _ ‹_› _ _ _ ‹_› ‹_› ‹_› ‹_› ‹_›
  ·exact .ifn
  ·exact .ifs _ _
  ·exact .bnd _ _ _ _ ‹_› ‹_› ‹_›
 | tup => simp [cellsV] at hc
 | ptr t ver o c sz h' => simp [cellsV] at hc; subst hc; exact one _ _ (.ptr t ver o c sz h') rfl
 | ipt cs' b o cell hs h1 h2 => simp [cellsV] at hc; subst hc; exact one _ _ (.ipt cs' b o cell hs h1 h2) rfl
 | ref t ver o n k c sz cap h' hn hc' => simp [cellsV] at hc; subst hc; exact one _ _ (.ref t ver o n k c sz cap h' hn hc') rfl
 | refv t ver k a h' => simp [cellsV] at hc; subst hc; exact one _ _ (.refv t ver k a h') rfl
 | clo f cap caps hf hn h' => simp [cellsV] at hc; subst hc; exact one _ _ (.clo f cap caps hf hn h') rfl
 | opt => simp [cellsV] at hc
 | und => simp [cellsV] at hc
 | no => simp [cellsV] at hc
 | yld => simp [cellsV] at hc
 | ub => simp [cellsV] at hc

omit [Laid] in
theorem okCell_one {v:V} {x:Value} (h:VRel Φ S w v x) (hc:okCell v = true):x.oneCell' = true := by
 cases h with
 | p y v hp => exact hp.cellOne
 | _ => first | rfl | simp [okCell] at hc

def Gives (P:Program) (m:Nat) (w0:World) (S0 Jo:Nat→Prop) (D:Bs) (st:St) (a:Act) (w:World) (sem:Sem Value) (v:V) (hp' : List Blk):Prop :=
 ∃ x w' Φ' S',sem.run P w = .ok x w'∧Sim m w0 S0 Jo D Φ' S' ⟨st.ts,hp'⟩ a w'∧VRel Φ' S' w' v x

theorem gives_same (h:Sim m w0 S0 Jo D Φ S st a w) {sem:Sem Value} {x:Value} {v:V} (hr:sem.run P w = .ok x w) (hv:VRel Φ S w v x):Gives P m w0 S0 Jo D st a w sem v st.hp :=
 ⟨x,w,Φ,S,hr,h,hv⟩

omit [Laid] in
theorem cells_le {cs:List V} {arr:Array Value} (h:Cells Φ S w cs arr):cs.length≤arr.size := by rw [h.1]; exact Nat.le_refl _

theorem gives_new (h:Sim m w0 S0 Jo D Φ S st a w) {s:Nat} {b:Blk} (hb:st.hp[s]? = some b) {arr:Array Value} {ty:TypeId} {cs:List V} (hc:Cells Φ S w cs arr) {sem:Sem Value}
  (hr:sem.run P w = .ok (.pointer (some ⟨w.heap.size,0,none⟩)) (w.alloc (.cells arr ty))) :
  Gives P m w0 S0 Jo D st a w sem (.ptr s (b.ver + 1) 0) (st.hp.set s ⟨b.ver + 1,.live,cs⟩) := by
 obtain ⟨Φ',_,h2,h3⟩ := h.new (ty := ty) hb (cells_le hc) hc.2
 exact ⟨_,_,Φ',S,hr,h3,.ptr _ _ _ _ _ h2⟩

omit [Laid] in
theorem run_newVar (t:TypeId) (v:Value) (w:World):(newVar t v).run P w = .ok ⟨w.heap.size,0,none⟩ (w.alloc (.cells v.cells t)) := by
 simp [newVar,newRow]

theorem give_newz (h:Sim m w0 S0 Jo D Φ S st a w) {s:Nat} {b:Blk} (hb:st.hp[s]? = some b) {e:TypeId} {z:List V} (hz:zero? P e = some z) :
  Gives P m w0 S0 Jo D st a w (Instr.alloc e true (.tuple #[])) (.ptr s (b.ver + 1) 0) (st.hp.set s ⟨b.ver + 1,.live,z⟩) := by
 obtain ⟨i,u,hi,hu,rfl,hrun⟩ := zero_run hz
 refine gives_new (arr := u.cells) (ty := e) h hb (cells_const _) ?_
 simp [Instr.alloc,hrun,run_newVar]

theorem give_box (h:Sim m w0 S0 Jo D Φ S st a w) {s:Nat} {b:Blk} (hb:st.hp[s]? = some b) {e:TypeId} {x:Value} {v:V} (hv:VRel Φ S w v x) {cs:List V} (hc:cellsV v = some cs) :
  Gives P m w0 S0 Jo D st a w (Instr.box e x) (.ptr s (b.ver + 1) 0) (st.hp.set s ⟨b.ver + 1,.live,cs⟩) := by
 refine gives_new (arr := x.cells) (ty := e) h hb (cells_of hv hc) ?_
 simp [Instr.box,run_newVar]

theorem cells_at (h:Sim m w0 S0 Jo D Φ S st a w) {t:Nat} {b:Blk} (hb:st.hp[t]? = some b) (hl:b.st.ok = true) {c sz:Nat} (hp:Φ t b.ver = some (.blk c sz)) :
  ∃ arr ty fz,w.heap[c]? = some (.cells arr ty fz)∧b.cs.length≤arr.size∧(∀ i x,b.cs[i]? = some x→VRel Φ S w x (arr.getD i undef)) := by
 have hB := h.hp t b hb
 unfold BRel at hB
 cases hs:b.st with
 | dead => rw [hs] at hl; cases hl
 | live =>
  rw [hs] at hB
  rcases hB with ⟨hB,_⟩ | ⟨c',sz',arr,ty,k1,k2,k3,k4,k5,k6,k7⟩
  ·rw [hB] at hp; cases hp
  ·rw [k1] at hp; injection hp with hp; injection hp with e1 e2
   subst e1 e2
   exact ⟨arr,ty,_,k2,by rw [k3]; exact k4,k5⟩
 | frozen =>
  rw [hs] at hB
  rcases hB with ⟨hB,_⟩ | ⟨c',sz',k1,k2,arr,ty,fz,k3,k4,k5⟩
  ·rw [hB] at hp; cases hp
  ·rw [k1] at hp; injection hp with hp; injection hp with e1 e2
   subst e1 e2
   exact ⟨arr,ty,fz,k3,by rw [k4.1]; exact k4.2,k5⟩

omit [Laid] in
theorem cell_getD {c i:Nat} {arr:Array Value} {ty:TypeId} {fz:Nat×Nat} (h:w.heap[c]? = some (.cells arr ty fz)) (hi:i < arr.size):w.cell? ⟨c,i,none⟩ = some (arr.getD i undef) := by
 simp [World.cell?,h,Array.getD,hi]

theorem behind_rel (h:Sim m w0 S0 Jo D Φ S st a w) {v:V} {x:Value} (hv:VRel Φ S w v x) {cs:List V} (hb:behind st.hp v = some cs) :
  ∃ (c o:Nat) (f:Nat→Value),x = .pointer (some ⟨c,o,none⟩)∧∀ j u,cs[j]? = some u→w.cell? ⟨c,o + j,none⟩ = some (f j)∧VRel Φ S w u (f j) := by
 cases hv with
 | ptr t ver o c sz hΦ =>
  simp only [behind] at hb
  split at hb
  ·rename_i b hb'
   split at hb
   ·rename_i hc
    obtain ⟨rfl,hok,hle⟩ := hc
    simp only [sJ] at hb
    subst hb
    obtain ⟨arr,ty,fz,k1,k2,k3⟩ := cells_at h hb' hok hΦ
    refine ⟨c,o,fun j => arr.getD (o + j) undef,rfl,fun j u hu => ?_⟩
    rw [List.getElem?_drop] at hu
    have hlt := (List.getElem?_eq_some_iff.1 hu).1
    exact ⟨cell_getD k1 (by omega),k3 _ _ hu⟩
   ·cases hb
  ·cases hb
 | ipt ps b o cell hs h1 h2 =>
  simp only [behind,sJ] at hb
  subst hb
  refine ⟨b,o,cell,rfl,fun j u hu => ?_⟩
  rw [List.getElem?_map] at hu
  cases hj:ps[j]? with
  | none => simp [hj] at hu
  | some y =>
   simp only [hj,Option.map_some,sJ] at hu
   subst hu
   exact ⟨h1 j y hj,.p _ _ (h2 j y hj)⟩
 | _ => simp [behind] at hb

theorem give_ld1 (h:Sim m w0 S0 Jo D Φ S st a w) {t:TypeId} {n:Nat} (ha:agg? P t = some false) (_hn:sz? P t = some n) {v:V} {x:Value} (hv:VRel Φ S w v x) {cs:List V}
  (hb:behind st.hp v = some cs) {u:V} (hu:cs[0]? = some u):Gives P m w0 S0 Jo D st a w (Instr.loadAt t x) u st.hp := by
 obtain ⟨c,o,f,rfl,hf⟩ := behind_rel h hv hb
 obtain ⟨h1,h2⟩ := hf 0 u hu
 refine gives_same h (x := f 0) ?_ h2
 simp only [Nat.add_zero] at h1
 simp [Instr.loadAt,Instr.sureAddr,loadVar,agg_run ha,h1]

theorem give_ldn (h:Sim m w0 S0 Jo D Φ S st a w) {t:TypeId} {n:Nat} (ha:agg? P t = some true) (hn:sz? P t = some n) {v:V} {x:Value} (hv:VRel Φ S w v x) {cs:List V}
  (hb:behind st.hp v = some cs) (hu:n≤cs.length):Gives P m w0 S0 Jo D st a w (Instr.loadAt t x) (.agg (cs.take n)) st.hp := by
 obtain ⟨c,o,f,rfl,hf⟩ := behind_rel h hv hb
 have hl := run_loadCells P (c := c) (o := o) f n 0 w #[] (fun j hj => by
  have hlt:j < cs.length := by omega
  have := (hf j cs[j] (List.getElem?_eq_getElem hlt)).1
  simpa using this)
 refine gives_same h (x := .agg (#[] ++ ((List.range' 0 n).map f).toArray)) ?_ (.agg _ _ ?_ ?_)
 ·simp only [Instr.loadAt,Instr.sureAddr,loadVar,Sem.run_bind,Sem.run_pure,Result.andThen_ok,agg_run ha,sz_run hn,if_true]
  simp only [loadCells,hl,Result.andThen_ok]
 ·simp; omega
 ·intro i u hi
  rw [List.getElem?_take] at hi
  split at hi
  ·rename_i hlt
   have e:(#[] ++ ((List.range' 0 n).map f).toArray).getD i undef = f i := by
    simp [Array.getD,hlt]
   rw [e]; exact (hf i u hi).2
  ·cases hi
end
end Go.Mx
namespace Go.Mx
variable [Laid]
open Go.RowKit

section
variable {P:Program} {m:Nat} {w0:World} {S0 Jo:Nat→Prop} {D:Bs} {Φ:Plc} {S:Nat→Prop} {st:St} {a:Act} {w:World}

omit [Laid] in
theorem getD_of_list {arr:Array Value} {i:Nat}:arr.getD i undef = (arr.toList[i]?).getD undef := by
 by_cases h:i < arr.size
 ·simp [Array.getD,h]
 ·simp [Array.getD,h]

theorem give_st (h:Sim m w0 S0 Jo D Φ S st a w) {t:TypeId} {n:Nat} (hn:sz? P t = some n) {s ver o:Nat} {x y:Value} (hx:VRel Φ S w (.ptr s ver o) x) {v:V} (hy:VRel Φ S w v y)
  {vs:List V} (hv:cellsV v = some vs) {b:Blk} (hb:st.hp[s]? = some b) (hver:b.ver = ver) (hl:b.st.isLive = true) (hlen:vs.length = n) (hle:o + n≤b.cs.length) (hok:vs.all okCell = true) :
  ∃ w',(Instr.storeAt t x y).run P w = .ok () w'∧Sim m w0 S0 Jo D Φ S ⟨st.ts,st.hp.set s ⟨ver,.live,wr b.cs o vs⟩⟩ a w' := by
 obtain ⟨c,sz,hΦ,rfl⟩ := inv_ptr hx
 subst hver
 have hl' : b.st = .live := by cases hbs:b.st <;> simp_all [BSt.isLive]
 obtain ⟨arr,ty,k1,k2,k3,k4,k5,k6⟩ := live_of h hb hl' hΦ
 have hc := cells_of hy hv
 have hsz:y.cells.size = n := by rw [hc.1]; exact hlen
 have hone:∀ u∈y.cells.toList,u.oneCell' = true := by
  intro u hu
  obtain ⟨i,hi⟩ := List.getElem?_of_mem hu
  have hlt := (List.getElem?_eq_some_iff.1 hi).1
  have hlt' : i < vs.length := by rw [hlen,← hsz]; simpa using hlt
  have hr := hc.2 i vs[i] (List.getElem?_eq_getElem hlt')
  rw [getD_of_list,hi] at hr
  exact okCell_one hr (by rw [List.all_eq_true] at hok; exact hok _ (List.getElem_mem hlt'))
 obtain ⟨w',arr',hrun,ho,hh,hs',hg⟩ := run_storeCells P (c := c) (o := o) (ty := ty) y.cells.toList 0 w arr k1 hone (by simp; omega)
 refine ⟨w',?_,?_⟩
 ·simp only [Instr.storeAt,Instr.sureAddr,storeVar,Sem.run_bind,Sem.run_pure,Result.andThen_ok,sz_run hn]
  simp [hsz,hrun]
 ·refine h.turn hb hl' hΦ ho hh (hs'.trans k2) (by rw [wr_length]; exact k3) ?_
  intro i u hu
  rw [hg i]
  rcases wr_get _ _ _ _ _ hu with ⟨h1,h2⟩ | ⟨h1,h2⟩
  ·have hlt := (List.getElem?_eq_some_iff.1 h2).1
   rw [if_pos (by simp; omega)]
   have hr := hc.2 _ _ h2
   rw [getD_of_list] at hr
   simpa [List.getD] using hr
  ·rw [if_neg (by simp; omega)]
   exact k4 i u h2

omit [Laid] in
theorem cells_wr:∀ (l:List Value) (o k:Nat) (arr:Array Value) (cs vs:List V),Cells Φ S w cs arr→l.length = vs.length→(∀ (i:Nat) (c:V),vs[i]? = some c→VRel Φ S w c ((l[i]?).getD undef)) →
  Cells Φ S w (wr cs (o + k) vs) ((l.zipIdx k).foldl (fun cs (x:Value×Nat) => cs.setIfInBounds (o + x.2) x.1) arr)
 | [],o,k,arr,cs,vs,h,hl,hv => by
  have:vs = [] := List.eq_nil_of_length_eq_zero (by simpa using hl.symm)
  subst this
  simpa [wr] using h
 | x :: l,o,k,arr,cs,[],h,hl,hv => by simp at hl
 | x :: l,o,k,arr,cs,v :: vs,h,hl,hv => by
  simp only [List.zipIdx_cons,List.foldl_cons,wr]
  have h0:VRel Φ S w v x := by simpa using hv 0 v rfl
  refine cells_wr l o (k + 1) _ _ vs ⟨by simp [h.1],fun i c hc => ?_⟩ (by simpa using hl) (fun i c hc => by simpa using hv (i + 1) c (by simpa using hc))
  rw [getD_set]
  rw [List.getElem?_set] at hc
  by_cases e:o + k = i
  ·rw [if_pos e] at hc
   split at hc
   ·rename_i hlt
    rw [if_pos ⟨e,by rw [h.1]; omega⟩]
    simp only [sJ] at hc; subst hc; exact h0
   ·cases hc
  ·rw [if_neg e] at hc
   rw [if_neg (fun hh => e hh.1)]
   exact h.2 i c hc

omit [Laid] in
theorem fill_rel (place:Nat→Option (Nat×Nat)):∀ (parts:List (Nat×Value)) (aparts:List (Nat×Nat×V)) (arr:Array Value) (cs cs' : List V),Cells Φ S w cs arr→parts.length = aparts.length →
  (∀ (i:Nat) (p:Nat×Value) (q:Nat×Nat×V),parts[i]? = some p→aparts[i]? = some q→place p.1 = some (q.1,q.2.1)∧VRel Φ S w q.2.2 p.2)→fillV cs aparts = some cs'→∃ arr',Instr.fill place arr parts = some arr'∧Cells Φ S w cs' arr'
 | [],[],arr,cs,cs',h,_,_,hf => by simp only [fillV,sJ] at hf; subst hf; exact ⟨arr,rfl,h⟩
 | [],_ :: _,_,_,_,_,hl,_,_ => by simp at hl
 | _ :: _,[],_,_,_,_,hl,_,_ => by simp at hl
 | (i,x) :: parts,(o,n,v) :: aparts,arr,cs,cs',h,hl,hp,hf => by
  obtain ⟨h1,h2⟩ := hp 0 (i,x) (o,n,v) rfl rfl
  simp only at h1 h2
  simp only [fillV] at hf
  split at hf
  ·rename_i vs hvs
   split at hf
   ·rename_i hc
    have hcx := cells_of h2 hvs
    have hsz:x.cells.size = n := by rw [hcx.1]; exact hc.1
    have h3:Cells Φ S w (wr cs (o + 0) vs) ((x.cells.toList.zipIdx 0).foldl (fun cs (x:Value×Nat) => cs.setIfInBounds (o + x.2) x.1) arr) :=
     cells_wr x.cells.toList o 0 arr cs vs h (by simp [hsz,hc.1]) (fun i c hc' => by have := hcx.2 i c hc'; rw [getD_of_list] at this; exact this)
    have h4:(x.cells.toList.zipIdx 0).foldl (fun cs (x:Value×Nat) => cs.setIfInBounds (o + x.2) x.1) arr = x.cells.zipIdx.foldl (fun cs (c,j) => cs.setIfInBounds (o + j) c) arr := by
     rw [← Array.foldl_toList]; simp [Array.toList_zipIdx]
    rw [h4] at h3
    obtain ⟨arr',e1,e2⟩ := fill_rel place parts aparts _ _ cs' h3 (by simpa using hl) (fun i p q hp' hq => hp (i + 1) p q (by simpa using hp') (by simpa using hq)) hf
    refine ⟨arr',?_,e2⟩
    simp only [Instr.fill,h1]
    rw [if_neg (by simp only [Bool.or_eq_true,decide_eq_true_eq,not_or]; refine ⟨by simp [hsz],?_⟩; rw [h.1,hsz]; omega)]
    exact e1
   ·cases hf
  ·cases hf
end
end Go.Mx
namespace Go.Mx
variable [Laid]
open Go.RowKit

section
variable {P:Program} {m:Nat} {w0:World} {S0 Jo:Nat→Prop} {D:Bs} {Φ:Plc} {S:Nat→Prop} {st:St} {a:Act} {w:World}

omit [Laid] in
theorem places_list {w:World}:∀ (l:List Field) (ps:List (Nat×Nat)),(l.mapM fun f => (sz? P f.type).map fun n => (f.offset,n)) = some ps →
  (l.mapM (m := Sem) fun f => do pure (f.offset,← sizeOf f.type)).run P w = .ok ps w
 | [],ps,h => by
  simp only [List.mapM_nil,Option.pure_def,sJ] at h
  subst h; rfl
 | f :: l,ps,h => by
  rw [List.mapM_cons] at h
  cases h1:sz? P f.type with
  | none => simp [h1] at h
  | some n =>
   cases h2:(l.mapM fun f => (sz? P f.type).map fun n => (f.offset,n)) with
   | none => simp [h1,h2] at h
   | some qs =>
    simp [h1,h2] at h
    subst h
    rw [List.mapM_cons]
    simp only [Sem.run_bind,sz_run h1,Sem.run_pure,Result.andThen_ok,places_list l qs h2]

omit [Laid] in
theorem places_run {fields:Array Field} {ps:List (Nat×Nat)} (h:places P fields = some ps) (w:World) :
  (fields.mapM (m := Sem) fun f => do pure (f.offset,← sizeOf f.type)).run P w = .ok ps.toArray w := by
 rw [Array.mapM_eq_mapM_toList]
 simp only [Sem.run_map,places_list fields.toList ps h,Result.andThen_ok]

theorem aparts_of {parts:Array (Nat×Operand)} {l:List (Nat×Nat×Opd)} {γ:Opd→V} (hγ:∀ x,VRel Φ S w (γ (cO x)) (a.eval x)) {f:Nat→Option (Nat×Nat)}
  (hl:parts.toList.length = l.length) (hp:∀ (i:Nat) (p:Nat×Operand) (q:Nat×Nat×Opd),parts.toList[i]? = some p→l[i]? = some q→f p.1 = some (q.1,q.2.1)∧q.2.2 = cO p.2) :
  (parts.toList.map fun p => (p.1,a.eval p.2)).length = (l.map fun p => (p.1,p.2.1,γ p.2.2)).length ∧
  ∀ (i:Nat) (p:Nat×Value) (q:Nat×Nat×V),(parts.toList.map fun p => (p.1,a.eval p.2))[i]? = some p→(l.map fun p => (p.1,p.2.1,γ p.2.2))[i]? = some q →
   f p.1 = some (q.1,q.2.1)∧VRel Φ S w q.2.2 p.2 := by
 refine ⟨by simpa using hl,fun i p q h1 h2 => ?_⟩
 rw [List.getElem?_map] at h1 h2
 cases e1:parts.toList[i]? with
 | none => simp [e1] at h1
 | some p' =>
  cases e2:l[i]? with
  | none => simp [e2] at h2
  | some q' =>
   simp only [e1,Option.map_some,sJ] at h1
   simp only [e2,Option.map_some,sJ] at h2
   subst h1 h2
   obtain ⟨k1,k2⟩ := hp i p' q' e1 e2
   refine ⟨k1,?_⟩
   simp only [k2]
   exact hγ p'.2

theorem give_build_struct (h:Sim m w0 S0 Jo D Φ S st a w) {γ:Opd→V} (hγ:∀ x,VRel Φ S w (γ (cO x)) (a.eval x)) {t:TypeId} {parts:Array (Nat×Operand)} {z:List V} {fields:Array Field} {ps:List (Nat×Nat)} (hz:zero? P t = some z)
  (hu:P.underlying t = some (.struct fields)) (hps:places P fields = some ps) {l:List (Nat×Nat×Opd)}
  (hl:(parts.toList.mapM (partOf ps)) = some l) {cs:List V}
  (hf:fillV z (l.map fun p => (p.1,p.2.1,γ p.2.2)) = some cs) :
  Gives P m w0 S0 Jo D st a w (Instr.build t (parts.map fun (i,x) => (i,a.eval x))) (.agg cs) st.hp := by
 obtain ⟨i,u,hi,hu',rfl,hrun⟩ := zero_run hz
 have key:∀ (l' : List (Nat×Operand)) (l:List (Nat×Nat×Opd)),(l'.mapM (partOf ps)) = some l →
   l'.length = l.length∧∀ (i:Nat) (p:Nat×Operand) (q:Nat×Nat×Opd),l'[i]? = some p→l[i]? = some q→ps.toArray[p.1]? = some (q.1,q.2.1)∧q.2.2 = cO p.2 := by
  intro l'
  induction l' with
  | nil => intro l h; simp at h; subst h; simp
  | cons p l' ih =>
   intro l h
   rw [List.mapM_cons] at h
   cases h1:ps[p.1]? with
   | none => simp [partOf,h1] at h
   | some q =>
    cases h2:(l'.mapM (partOf ps)) with
    | none => rw [h2] at h; simp [partOf,h1] at h
    | some qs =>
     rw [h2] at h
     simp [partOf,h1] at h
     subst h
     obtain ⟨k1,k2⟩ := ih qs h2
     refine ⟨by simp [k1],fun i p' q' e1 e2 => ?_⟩
     match i with
     | 0 => simp at e1 e2; subst e1 e2; exact ⟨by simpa using h1,rfl⟩
     | i + 1 => exact k2 i p' q' (by simpa using e1) (by simpa using e2)
 obtain ⟨k1,k2⟩ := key _ _ hl
 obtain ⟨k3,k4⟩ := aparts_of hγ (f := (ps.toArray[·]?)) k1 k2
 obtain ⟨arr',e1,e2⟩ := fill_rel _ _ _ u.cells _ _ (cells_const u.cells) k3 k4 hf
 refine gives_same h (x := .agg arr') ?_ (.agg _ _ e2.1 e2.2)
 simp only [Instr.build,Sem.run_bind,hrun,Result.andThen_ok,run_underlying hu,places_run hps]
 have:(parts.map fun (x:Nat×Operand) => (x.1,a.eval x.2)).toList = parts.toList.map fun p => (p.1,a.eval p.2) := by simp
 simp only [this,e1]
 rfl

theorem give_build_array (h:Sim m w0 S0 Jo D Φ S st a w) {γ:Opd→V} (hγ:∀ x,VRel Φ S w (γ (cO x)) (a.eval x)) {t e:TypeId} {len n:Nat} {parts:Array (Nat×Operand)} {z:List V} (hz:zero? P t = some z)
  (hu:P.underlying t = some (.array len e)) (hn:sz? P e = some n) {cs:List V}
  (hf:fillV z ((parts.toList.map fun p => (p.1 * n,n,cO p.2)).map fun p => (p.1,p.2.1,γ p.2.2)) = some cs) :
  Gives P m w0 S0 Jo D st a w (Instr.build t (parts.map fun (i,x) => (i,a.eval x))) (.agg cs) st.hp := by
 obtain ⟨i,u,hi,hu',rfl,hrun⟩ := zero_run hz
 obtain ⟨k3,k4⟩ := aparts_of hγ (parts := parts) (l := parts.toList.map fun p => (p.1 * n,n,cO p.2)) (f := fun i => some (i * n,n)) (by simp) (by
  intro i p q e1 e2
  rw [List.getElem?_map,e1] at e2
  simp at e2; subst e2; exact ⟨rfl,rfl⟩)
 obtain ⟨arr',e1,e2⟩ := fill_rel (fun i => some (i * n,n)) _ _ u.cells _ _ (cells_const u.cells) k3 k4 hf
 refine gives_same h (x := .agg arr') ?_ (.agg _ _ e2.1 e2.2)
 simp only [Instr.build,Sem.run_bind,hrun,Result.andThen_ok,run_underlying hu,sz_run hn]
 have:(parts.map fun (x:Nat×Operand) => (x.1,a.eval x.2)).toList = parts.toList.map fun p => (p.1,a.eval p.2) := by simp
 simp only [this,e1]
 rfl

omit [Laid] in
theorem allP_map {cs:List V} {ps:List Pv} (h:allP cs = some ps):cs = ps.map .p := by
 induction cs generalizing ps with
 | nil => simp [allP] at h; subst h; rfl
 | cons c cs ih =>
  cases c <;> simp [allP] at h
  obtain ⟨qs,h1,rfl⟩ := h
  simp [ih h1]

omit [Laid] in
theorem chunk_length {α:Type} (k:Nat):∀ (n:Nat) (l:List α),(chunk k n l).length = n
 | 0,_ => rfl
 | n + 1,l => by simp [chunk,chunk_length k n]

omit [Laid] in
theorem chunk_get {α:Type} (k:Nat):∀ (n:Nat) (l:List α) (i:Nat) (e:List α),(chunk k n l)[i]? = some e→e = (l.drop (i * k)).take k
 | 0,_,i,e,h => by simp [chunk] at h
 | n + 1,l,0,e,h => by simp [chunk] at h; simp [h]
 | n + 1,l,i + 1,e,h => by
  simp only [chunk,List.getElem?_cons_succ] at h
  have := chunk_get k n _ i e h
  rw [this,List.drop_drop,Nat.add_mul,Nat.one_mul,Nat.add_comm k]

omit [Laid] in
theorem chunk_len {α:Type} {k n:Nat} {l:List α} (h:n * k≤l.length):∀ e∈chunk k n l,e.length = k := by
 intro e he
 obtain ⟨i,hi⟩ := List.getElem?_of_mem he
 have h1 := chunk_get k n l i e hi
 have h2:i < n := by have := (List.getElem?_eq_some_iff.1 hi).1; rwa [chunk_length] at this
 have h3:(i + 1) * k≤n * k := Nat.mul_le_mul_right k h2
 rw [Nat.add_mul,Nat.one_mul] at h3
 rw [h1]; simp; omega

omit [Laid] in
theorem slice_rel {b o n k cap:Nat} {ps:List Pv} (full:Bool) (hs:S b) (hn:n * k≤ps.length) (hc:n≤cap) (hf:full = true→cap = n)
  (hcell:∀ j x,ps[j]? = some x→∃ u,w.cell? ⟨b,o + j,none⟩ = some u∧PRel S w x u):PRel S w (.sl k (chunk k n ps) full) (.slice (some ⟨b,o,none⟩) n cap) := by
 rcases Nat.eq_zero_or_pos n with h0 | h0
 ·subst h0
  exact .sl0 k full _ cap hf
 ·have hx:∀ i j e x,(chunk k n ps)[i]? = some e→e[j]? = some x→ps[i * k + j]? = some x := by
   intro i j e x he hx
   rw [chunk_get k n ps i e he,List.getElem?_take] at hx
   split at hx
   ·rw [List.getElem?_drop] at hx; exact hx
   ·cases hx
  refine .sl k _ full b o n cap (fun i j => (w.cell? ⟨b,o + (i * k + j),none⟩).getD undef) hs (chunk_length k n ps) h0 hc hf (chunk_len hn) ?_ ?_
  ·intro i j e x he hx'
   obtain ⟨u,h1,_⟩ := hcell _ x (hx i j e x he hx')
   simp [h1]
  ·intro i j e x he hx'
   obtain ⟨u,h1,h2⟩ := hcell _ x (hx i j e x he hx')
   simp [h1]; exact h2

omit [Laid] in
theorem newRow_run (t:TypeId) (c:Array Value) (w:World):(newRow t c).run P w = .ok ⟨w.heap.size,0,none⟩ (w.alloc (.cells c t)) := by
 simp [newRow]

omit [Laid] in
theorem range_zero {z:Array Value} {n k:Nat} (hk:z.size = k) (h0:0 < k):((Array.range (n * k)).map (z[· % z.size]!)).toList = (List.replicate n z.toList).flatten := by
 subst hk
 induction n with
 | zero => simp
 | succ n ih =>
  rw [List.replicate_succ',List.flatten_append]
  have e:Array.range ((n + 1) * z.size) = Array.range (n * z.size) ++ (Array.range z.size).map (n * z.size + ·) := by
   apply Array.ext'
   simp [Array.toList_range,Nat.add_mul,List.range_add]
  rw [e,Array.map_append,Array.toList_append,ih]
  congr 1
  simp only [List.flatten_cons,List.flatten_nil,List.append_nil,Array.toList_map,Array.toList_range,List.map_map]
  apply List.ext_getElem?
  intro i
  rw [List.getElem?_map]
  by_cases hi:i < z.size
  ·simp [hi,Nat.add_comm (n * z.size) i,Nat.add_mul_mod_self_right,Nat.mod_eq_of_lt hi]
  ·simp [hi]

omit [Laid] in
theorem bsl_run {t e:TypeId} {n k:Nat} {z:List V} {parts:Array (Nat×Value)} (hu:P.underlying t = some (.slice e)) (hk:sz? P e = some k) (hz:zero? P e = some z) (h1:n * k≤16777216) (h0:0 < k)
  (hzl:z.length = k):∃ arr:Array Value,Cells Φ S w (List.replicate n z).flatten arr∧∀ arr',Instr.fill (fun i => some (i * k,k)) arr parts.toList = some arr' →
   (Instr.buildSlice t n parts).run P w = .ok (.slice (some ⟨w.heap.size,0,none⟩) n n) (w.alloc (.cells arr' e)) := by
 obtain ⟨i,u,hi,hu',rfl,hrun⟩ := zero_run hz
 have hus:u.cells.size = k := by simpa using hzl
 refine ⟨(Array.range (n * k)).map (u.cells[· % u.cells.size]!),?_,?_⟩
 ·have hh := cells_const (Φ := Φ) (S := S) (w := w) ((Array.range (n * k)).map (u.cells[· % u.cells.size]!))
  rw [range_zero hus h0] at hh
  have:(List.replicate n u.cells.toList).flatten.map constC = (List.replicate n (u.cells.toList.map constC)).flatten := by
   rw [List.map_flatten,List.map_replicate]
  rw [this] at hh; exact hh
 ·intro arr' hf
  rcases Nat.eq_zero_or_pos n with hn | hn
  ·subst hn
   have hf' : Instr.fill (fun i => some (i * k,k)) #[] parts.toList = some arr' := by simpa [Array.range_zero'] using hf
   simp [Instr.buildSlice,run_underlying hu,sz_run hk,newRow_run,hf',Array.range_zero']
  ·have hnk:n * k ≠ 0 := by have := Nat.mul_pos hn h0; omega
   simp [Instr.buildSlice,run_underlying hu,sz_run hk,hrun,newRow_run,hf,hnk,show ¬ (16777216 < n * k) by omega]

theorem give_bsl (h:Sim m w0 S0 Jo D Φ S st a w) {γ:Opd→V} (hγ:∀ x,VRel Φ S w (γ (cO x)) (a.eval x)) {t e:TypeId} {n k:Nat} {z:List V} {parts:Array (Nat×Operand)} (hu:P.underlying t = some (.slice e)) (hk:sz? P e = some k) (hz:zero? P e = some z)
  (h1:n * k≤16777216) (h0:0 < k) (hzl:z.length = k) {cs:List V}
  (hf:fillV (List.replicate n z).flatten ((parts.toList.map fun p => (p.1 * k,k,cO p.2)).map fun p => (p.1,p.2.1,γ p.2.2)) = some cs) :
  (∀ s b,st.hp[s]? = some b→Gives P m w0 S0 Jo D st a w (Instr.buildSlice t n (parts.map fun (i,x) => (i,a.eval x))) (.ref s (b.ver + 1) 0 n k) (st.hp.set s ⟨b.ver + 1,.live,cs⟩)) ∧
  (∀ ps,allP cs = some ps→Gives P m w0 S0 Jo D st a w (Instr.buildSlice t n (parts.map fun (i,x) => (i,a.eval x))) (.p (.sl k (chunk k n ps) true)) st.hp) := by
 obtain ⟨arr,hc,hrun⟩ := bsl_run (P := P) (Φ := Φ) (S := S) (w := w) (parts := parts.map fun (i,x) => (i,a.eval x)) hu hk hz h1 h0 hzl
 obtain ⟨k3,k4⟩ := aparts_of hγ (parts := parts) (l := parts.toList.map fun p => (p.1 * k,k,cO p.2)) (f := fun i => some (i * k,k)) (by simp) (by
  intro i p q e1 e2
  rw [List.getElem?_map,e1] at e2
  simp at e2; subst e2; exact ⟨rfl,rfl⟩)
 obtain ⟨arr',e1,e2⟩ := fill_rel (fun i => some (i * k,k)) _ _ arr _ _ hc k3 k4 hf
 have:(parts.map fun (x:Nat×Operand) => (x.1,a.eval x.2)).toList = parts.toList.map fun p => (p.1,a.eval p.2) := by simp
 have hr := hrun arr' (by rw [this]; exact e1)
 have hlen:cs.length = n * k := by
  have:∀ (l:List (Nat×Nat×V)) (cs cs' : List V),fillV cs l = some cs'→cs'.length = cs.length := by
   intro l
   induction l with
   | nil => intro cs cs' h; simp [fillV] at h; rw [h]
   | cons q l ih =>
    intro cs cs' h
    obtain ⟨o,n,v⟩ := q
    simp only [fillV] at h
    split at h
    ·split at h
     ·rw [ih _ _ h,wr_length]
     ·cases h
    ·cases h
  rw [this _ _ _ hf]; simp [hzl]
 constructor
 ·intro s b hb
  obtain ⟨Φ',_,h2,h3⟩ := h.new (ty := e) hb (cells_le e2) e2.2
  exact ⟨_,_,Φ',S,hr,h3,.ref _ _ _ _ _ _ _ _ h2 (Nat.le_refl _) (by rw [e2.1,hlen]; omega)⟩
 ·intro ps hps
  have hlt:∀ b,S b→b < w.heap.size := h.Slt
  have hnew:(w.alloc (Obj.cells arr' e)).heap[w.heap.size]? = some (Obj.cells arr' e) := heap_alloc_new w _
  have hg:Sim m w0 S0 Jo D Φ (fun b => S b ∨ b = w.heap.size) st a (w.alloc (.cells arr' e)) :=
   h.grow rfl rfl rfl (by simp) (fun b hb => Below.heap_alloc w _ b hb) (fun b hb => .inl hb) (fun b hb => hb.imp id (fun e => by omega)) (fun b hb => by
    rcases hb with hb | hb
    ·have := hlt b hb; simp; omega
    ·subst hb; simp)
  refine ⟨_,_,Φ,_,hr,hg,.p _ _ (slice_rel true (.inr rfl) ?_ (Nat.le_refl _) (fun _ => rfl) ?_)⟩
  ·have := allP_map hps; rw [this] at hlen; simp at hlen; omega
  ·intro j x hx
   have hcs := allP_map hps
   have hj:cs[j]? = some (.p x) := by rw [hcs,List.getElem?_map,hx]; rfl
   have hr' := (e2.2 j _ hj)
   have hjlt:j < arr'.size := by rw [e2.1]; exact (List.getElem?_eq_some_iff.1 hj).1
   refine ⟨_,by rw [Nat.zero_add]; exact cell_getD hnew hjlt,?_⟩
   cases hr' with
   | p _ _ hp => exact hp.mono (fun b hb => .inl hb) (fun b hb => Below.heap_alloc w _ b (hlt b hb))
end
end Go.Mx
namespace Go.Mx
variable [Laid]
open Go.RowKit

section
variable {P:Program} {m:Nat} {w0:World} {S0 Jo:Nat→Prop} {D:Bs} {Φ:Plc} {S:Nat→Prop} {st:St} {a:Act} {w:World}

theorem give_bin (h:Sim m w0 S0 Jo D Φ S st a w) {op:BinOp} {t:TypeId} {x y:Operand} {k:IntKind} {n l:Int} {r:Pv} (hx:VRel Φ S w (.p (.int k n)) (a.eval x)) (hy:VRel Φ S w (.p (.int k l)) (a.eval y))
  (hr:binI op k n l = some r):Gives P m w0 S0 Jo D st a w (do eqGuard op t x y (a.eval x) (a.eval y); binOp op t (a.eval x) (a.eval y)) (.p r) st.hp := by
 rw [inv_int hx,inv_int hy]
 have hg:eqGuard op t x y (.int k n) (.int k l) = pure () := by cases op <;> rfl
 rw [hg]
 cases op <;> simp only [binI,sJ] at hr <;> first
  | (cases hr; done)
  | (subst hr; refine gives_same h (x := _) (by simp [binOp,Op.intArith,Op.intCmp]; rfl) (.p _ _ ?_); constructor)
  | (subst hr; refine gives_same h (x := _) (by simp [binOp,intBits_and,intBits_or,intBits_xor,intBits_andNot]; rfl) (.p _ _ ?_); constructor)
  | (split at hr
     ·cases hr
     ·rename_i hne
      simp only [sJ] at hr
      subst hr
      refine gives_same h (x := _) (by simp [binOp,Op.intDiv,hne]; rfl) (.p _ _ ?_); constructor)

theorem give_sh (h:Sim m w0 S0 Jo D Φ S st a w) {left:Bool} {t:TypeId} {x y:Operand} {k k' : IntKind} {n l:Int} (hx:VRel Φ S w (.p (.int k n)) (a.eval x)) (hy:VRel Φ S w (.p (.int k' l)) (a.eval y)) (hl:0≤l) :
  Gives P m w0 S0 Jo D st a w (do eqGuard (if left then .shl else .shr) t x y (a.eval x) (a.eval y); binOp (if left then .shl else .shr) t (a.eval x) (a.eval y)) (.p (.int k (sh2 left k n l))) st.hp := by
 rw [inv_int hx,inv_int hy]
 have h0:¬ l < 0 := by omega
 cases left
 ·refine gives_same h (x := .int k (v_shr k n l)) ?_ (.p _ _ (.int _ _))
  simp [eqGuard,binOp,Op.shift,h0,v_shr]
 ·refine gives_same h (x := .int k (v_shl k n l)) ?_ (.p _ _ (.int _ _))
  simp [eqGuard,binOp,Op.shift,h0,v_shl]
theorem give_bnot (h:Sim m w0 S0 Jo D Φ S st a w) {x:Value} {k:IntKind} {n:Int} (hx:VRel Φ S w (.p (.int k n)) x):Gives P m w0 S0 Jo D st a w (Op.unary .xor x) (.p (.int k (v_bnot k n))) st.hp := by
 rw [inv_int hx]
 exact gives_same h (x := .int k (v_bnot k n)) rfl (.p _ _ (.int _ _))
omit [Laid] in
theorem slice_isn {Φ:Plc} {S:Nat→Prop} {w:World} {v:V} {n:Nat} {x:Value} (hx:VRel Φ S w v x) (hv:(∃ k es full,v = .p (.sl k es full)∧n = es.length) ∨ ∃ t ver o k,v = .ref t ver o n k):∃ base m cap,x = .slice base m cap∧(base = none→n = 0) := by
 rcases hv with ⟨k,es,full,rfl,rfl⟩ | ⟨t,ver,o,k,rfl⟩
 ·cases hx with
  | p _ _ h => cases h with
   | slnil => exact ⟨_,_,_,rfl,fun _ => rfl⟩
   | sl0 => exact ⟨_,_,_,rfl,fun _ => rfl⟩
   | sl => exact ⟨_,_,_,rfl,fun e => by cases e⟩
 ·cases hx with
  | ref => exact ⟨_,_,_,rfl,fun e => by cases e⟩
  | refv => exact ⟨_,_,_,rfl,fun _ => rfl⟩
theorem give_isn (h:Sim m w0 S0 Jo D Φ S st a w) {t e:TypeId} {x y:Operand} {v:V} {n:Nat} (hu:P.underlying t = some (.slice e)) (hx:VRel Φ S w v (a.eval x)) (hy:a.eval y = .slice none 0 0) (hv:(∃ k es full,v = .p (.sl k es full)∧n = es.length) ∨ ∃ t ver o k,v = .ref t ver o n k) :
  Gives P m w0 S0 Jo D st a w (do eqGuard .eql t x y (a.eval x) (a.eval y); binOp .eql t (a.eval x) (a.eval y)) (.ub n) st.hp := by
 obtain ⟨base,m',cap,hb,hn⟩ := slice_isn hx hv
 rw [hb,hy]
 refine gives_same h (x := .bool base.isNone) ?_ (.ub _ _ (fun e => hn (by simpa using e)))
 have e1:(eqGuard .eql t x y (.slice base m' cap) (.slice none 0 0)).run P w = .ok () w := rfl
 have e2:(Op.equal t (.slice base m' cap) (.slice none 0 0)).run P w = .ok base.isNone w := by
  have key:∀ d,(Op.equalIn (d + 1) t (.slice base m' cap) (.slice none 0 0)).run P w = .ok base.isNone w := by
   intro d
   simp only [Op.equalIn,Sem.run_bind,run_underlying hu,Result.andThen_ok]
   cases base <;> rfl
  exact key 9999
 rw [Sem.run_bind,e1]
 simp only [Result.andThen_ok,binOp,Sem.run_bind,e2]
 rfl

theorem give_unot (h:Sim m w0 S0 Jo D Φ S st a w) {x:Value} {b:Bool} (hx:VRel Φ S w (.p (.bool b)) x):Gives P m w0 S0 Jo D st a w (Op.unary .not x) (.p (.bool !b)) st.hp := by
 rw [inv_bool hx]
 exact gives_same h (x := .bool !b) rfl (.p _ _ (.bool _))
theorem give_uneg (h:Sim m w0 S0 Jo D Φ S st a w) {x:Value} {k:IntKind} {n:Int} (hx:VRel Φ S w (.p (.int k n)) x):Gives P m w0 S0 Jo D st a w (Op.unary .neg x) (.p (.int k (k.wrap (0 - n)))) st.hp := by
 rw [inv_int hx]
 exact gives_same h (x := .int k (k.wrap (0 - n))) rfl (.p _ _ (.int _ _))
theorem give_conv (h:Sim m w0 S0 Jo D Φ S st a w) {src dst:TypeId} {j k k' : IntKind} {n:Int} {x:Value} (hs:P.underlying src = some (.int j)) (hd:P.underlying dst = some (.int k)) (hx:VRel Φ S w (.p (.int k' n)) x) :
  Gives P m w0 S0 Jo D st a w (convert src dst x) (.p (.int k (k.wrap n))) st.hp := by
 rw [inv_int hx]
 refine gives_same h (x := .int k (k.wrap n)) ?_ (.p _ _ (.int _ _))
 simp [convert,run_underlying hs,run_underlying hd,Conv.intToInt]

omit [Laid] in
theorem addr_add (b o n:Nat):(⟨b,o,none⟩ : Addr).add n = ⟨b,o + n,none⟩ := by simp only [Addr.add]; split <;> simp_all

omit [Laid] in
theorem run_fieldPlace {f:Field} {n:Nat} (hn:sz? P f.type = some (n + 1)) (b o:Nat) (w:World):(fieldPlace ⟨b,o,none⟩ f).run P w = .ok ⟨b,o + f.offset,none⟩ w := by
 simp [fieldPlace,sz_run hn,addr_add]

omit [Laid] in
theorem ipt_drop {cs:List Pv} {x:Value} (h:VRel Φ S w (.ipt cs) x) (k:Nat):∃ b o,x = .pointer (some ⟨b,o,none⟩)∧VRel Φ S w (.ipt (cs.drop k)) (.pointer (some ⟨b,o + k,none⟩)) := by
 obtain ⟨b,o,cell,rfl,hs,h1,h2⟩ := inv_ipt h
 refine ⟨b,o,rfl,.ipt _ b (o + k) (fun j => cell (k + j)) hs ?_ ?_⟩
 ·intro j x hx
  rw [List.getElem?_drop] at hx
  have := h1 _ x hx
  rwa [← Nat.add_assoc] at this
 ·intro j x hx
  rw [List.getElem?_drop] at hx
  exact h2 _ x hx

theorem give_fa (h:Sim m w0 S0 Jo D Φ S st a w) {t:TypeId} {fields:Array Field} {i n:Nat} {f:Field} (hu:P.underlying t = some (.struct fields)) (hf:fields[i]? = some f) (hn:sz? P f.type = some (n + 1)) {x:Value} :
  (∀ s ver o,VRel Φ S w (.ptr s ver o) x→Gives P m w0 S0 Jo D st a w (Instr.fieldAt t x i) (.ptr s ver (o + f.offset)) st.hp) ∧
  (∀ cs,VRel Φ S w (.ipt cs) x→Gives P m w0 S0 Jo D st a w (Instr.fieldAt t x i) (.ipt (cs.drop f.offset)) st.hp) := by
 constructor
 ·intro s ver o hx
  obtain ⟨c,sz,hΦ,rfl⟩ := inv_ptr hx
  refine gives_same h (x := .pointer (some ⟨c,o + f.offset,none⟩)) ?_ (.ptr _ _ _ _ _ hΦ)
  simp only [Instr.fieldAt,Sem.run_bind,run_underlying hu,Result.andThen_ok,hf,Instr.sureAddr,Sem.run_pure,run_fieldPlace hn]
 ·intro cs hx
  obtain ⟨b,o,rfl,h2⟩ := ipt_drop hx f.offset
  refine gives_same h (x := .pointer (some ⟨b,o + f.offset,none⟩)) ?_ h2
  simp only [Instr.fieldAt,Sem.run_bind,run_underlying hu,Result.andThen_ok,hf,Instr.sureAddr,Sem.run_pure,run_fieldPlace hn]

omit [Laid] in
theorem sl_elem {k:Nat} {es:List (List Pv)} {full:Bool} {x:Value} (h:VRel Φ S w (.p (.sl k es full)) x) {n:Nat} (hn:n < es.length) :
  ∃ b o cap,x = .slice (some ⟨b,o,none⟩) es.length cap∧VRel Φ S w (.ipt (es.getD n [])) (.pointer (some ⟨b,o + n * k,none⟩)) := by
 cases h with
 | p _ _ h =>
  cases h with
  | slnil => simp at hn
  | sl0 => simp at hn
  | sl _ _ _ b o n' cap cell hs hn' h0 hc hf hk h1 h2 =>
   subst hn'
   have e:es[n]? = some (es.getD n []) := by simp [List.getD,hn]
   refine ⟨b,o,cap,rfl,.ipt _ b _ (cell n) hs ?_ ?_⟩
   ·intro j x hx
    have := h1 n j _ x e hx
    rwa [← Nat.add_assoc] at this
   ·intro j x hx; exact h2 n j _ x e hx

theorem give_ia (h:Sim m w0 S0 Jo D Φ S st a w) {t e:TypeId} {k:Nat} (hu:P.underlying t = some (.slice e)) (hk:sz? P e = some k) {x y:Value} {kk:IntKind} {n:Int} (hy:VRel Φ S w (.p (.int kk n)) y) (h0:0≤n) :
  (∀ es full,VRel Φ S w (.p (.sl k es full)) x→n < es.length→Gives P m w0 S0 Jo D st a w (Instr.indexAt t x y) (.ipt (es.getD n.toNat [])) st.hp) ∧
  (∀ s ver o len,VRel Φ S w (.ref s ver o len k) x→n < len→Gives P m w0 S0 Jo D st a w (Instr.indexAt t x y) (.ptr s ver (o + n.toNat * k)) st.hp) := by
 rw [inv_int hy]
 constructor
 ·intro es full hx hn
  obtain ⟨b,o,cap,rfl,h2⟩ := sl_elem hx (n := n.toNat) (by omega)
  refine gives_same h (x := .pointer (some ⟨b,o + n.toNat * k,none⟩)) ?_ h2
  simp [Instr.indexAt,asIntOf,run_underlying hu,h0,hn,sz_run hk,addr_add]
 ·intro s ver o len hx hn
  cases hx with
  | ref _ _ _ _ _ c sz cap hΦ hn' hc =>
   refine gives_same h (x := .pointer (some ⟨c,o + n.toNat * k,none⟩)) ?_ (.ptr _ _ _ _ _ hΦ)
   simp [Instr.indexAt,asIntOf,run_underlying hu,h0,hn,sz_run hk,addr_add]
  | refv => omega

theorem give_iaa (h:Sim m w0 S0 Jo D Φ S st a w) {t e:TypeId} {k len:Nat} (hu:P.underlying t = some (.array len e)) (hk:sz? P e = some k) {x y:Value} {kk:IntKind} {n:Int} (hy:VRel Φ S w (.p (.int kk n)) y) (h0:0≤n) (hn:n < len) :
  (∀ s ver o,VRel Φ S w (.ptr s ver o) x→Gives P m w0 S0 Jo D st a w (Instr.indexAt t x y) (.ptr s ver (o + n.toNat * k)) st.hp) ∧
  (∀ cs,VRel Φ S w (.ipt cs) x→Gives P m w0 S0 Jo D st a w (Instr.indexAt t x y) (.ipt (cs.drop (n.toNat * k))) st.hp) := by
 rw [inv_int hy]
 constructor
 ·intro s ver o hx
  obtain ⟨c,sz,hΦ,rfl⟩ := inv_ptr hx
  refine gives_same h (x := .pointer (some ⟨c,o + n.toNat * k,none⟩)) ?_ (.ptr _ _ _ _ _ hΦ)
  simp [Instr.indexAt,asIntOf,run_underlying hu,h0,hn,sz_run hk,addr_add,Instr.sureAddr]
 ·intro cs hx
  obtain ⟨b,o,rfl,h2⟩ := ipt_drop hx (n.toNat * k)
  refine gives_same h (x := .pointer (some ⟨b,o + n.toNat * k,none⟩)) ?_ h2
  simp [Instr.indexAt,asIntOf,run_underlying hu,h0,hn,sz_run hk,addr_add,Instr.sureAddr]

omit [Laid] in
theorem part_run {t:TypeId} {n off:Nat} {arr:Array Value} {cs:List V} (hc:Cells Φ S w cs arr) {b:Bool} (ha:agg? P t = some b) (hn:sz? P t = some n) {v:V} (hv:part? cs off (if b then some n else none) = some v) :
  ∃ x,(part t arr off).run P w = .ok x w∧VRel Φ S w v x := by
 cases b with
 | true =>
  simp only [if_true,part?] at hv
  split at hv
  ·rename_i hle
   simp only [sJ] at hv
   subst hv
   refine ⟨.agg (arr.extract off (off + n)),by simp [part,agg_run ha,sz_run hn],.agg _ _ ?_ ?_⟩
   ·simp [hc.1]; omega
   ·intro i c hi
    rw [List.getElem?_take] at hi
    split at hi
    ·rename_i hlt
     rw [List.getElem?_drop] at hi
     have h2 := hc.2 _ c hi
     have hlt2 := (List.getElem?_eq_some_iff.1 hi).1
     rw [getD_of_list] at h2 ⊢
     have e:(arr.extract off (off + n)).toList[i]? = arr.toList[off + i]? := by
      simp [hlt]
     rw [e]; exact h2
    ·cases hi
  ·cases hv
 | false =>
  simp only [Bool.false_eq_true,if_false,part?] at hv
  have hlt := (List.getElem?_eq_some_iff.1 hv).1
  rw [← hc.1] at hlt
  have hv2 := hc.2 off v hv
  have e:arr[off]? = some arr[off] := by simp [hlt]
  have e2:arr.getD off undef = arr[off] := by simp [Array.getD,hlt]
  rw [e2] at hv2
  exact ⟨arr[off],by simp only [part,Sem.run_bind,agg_run ha,Result.andThen_ok,Bool.false_eq_true,if_false,e]; rfl,hv2⟩

theorem give_field (h:Sim m w0 S0 Jo D Φ S st a w) {t:TypeId} {fields:Array Field} {i n:Nat} {f:Field} {b:Bool} (hu:P.underlying t = some (.struct fields)) (hf:fields[i]? = some f) (ha:agg? P f.type = some b) (hn:sz? P f.type = some n)
  {x:Value} {cs:List V} (hx:VRel Φ S w (.agg cs) x) {v:V} (hv:part? cs f.offset (if b then some n else none) = some v):Gives P m w0 S0 Jo D st a w (Instr.field t x i) v st.hp := by
 obtain ⟨arr,rfl,hc⟩ := inv_agg hx
 obtain ⟨y,h1,h2⟩ := part_run hc ha hn hv
 refine gives_same h (x := y) ?_ h2
 simp [Instr.field,run_underlying hu,hf,asAgg,h1]

theorem give_idx (h:Sim m w0 S0 Jo D Φ S st a w) {t e:TypeId} {len k:Nat} {b:Bool} (hu:P.underlying t = some (.array len e)) (ha:agg? P e = some b) (hk:sz? P e = some k)
  {x y:Value} {cs:List V} (hx:VRel Φ S w (.agg cs) x) {kk:IntKind} {n:Int} (hy:VRel Φ S w (.p (.int kk n)) y) (h0:0≤n) (hn:n < len) {v:V} (hv:part? cs (n.toNat * k) (if b then some k else none) = some v) :
  Gives P m w0 S0 Jo D st a w (Instr.index t x y) v st.hp := by
 obtain ⟨arr,rfl,hc⟩ := inv_agg hx
 rw [inv_int hy]
 obtain ⟨z,h1,h2⟩ := part_run hc ha hk hv
 refine gives_same h (x := z) ?_ h2
 simp [Instr.index,asIntOf,run_underlying hu,h0,hn,sz_run hk,h1]

theorem give_six (h:Sim m w0 S0 Jo D Φ S st a w) {t:TypeId} (hu:P.underlying t = some .string) {x y:Value} {s:ByteArray} (hx:VRel Φ S w (.p (.str s)) x) {kk:IntKind} {n:Int} (hy:VRel Φ S w (.p (.int kk n)) y) (h0:0≤n) {b:UInt8} (hb:s[n.toNat]? = some b) :
  Gives P m w0 S0 Jo D st a w (Instr.index t x y) (.p (.int .u8 b.toNat)) st.hp := by
 rw [inv_str hx,inv_int hy]
 refine gives_same h (x := .int .u8 b.toNat) ?_ (.p _ _ (.int _ _))
 simp [Instr.index,asIntOf,run_underlying hu,h0,hb]

theorem give_sadd (h:Sim m w0 S0 Jo D Φ S st a w) {t:TypeId} {x y:Operand} {s r:ByteArray} (hx:VRel Φ S w (.p (.str s)) (a.eval x)) (hy:VRel Φ S w (.p (.str r)) (a.eval y)) (hl:s.size + r.size≤9223372036854775807) :
  Gives P m w0 S0 Jo D st a w (do eqGuard .add t x y (a.eval x) (a.eval y); binOp .add t (a.eval x) (a.eval y)) (.p (.str (s ++ r))) st.hp := by
 rw [inv_str hx,inv_str hy]
 have hg:eqGuard .add t x y (.string s) (.string r) = pure () := rfl
 have hm:¬ (((s.size + r.size:Nat):Int) > IntKind.i64.max) := by
  have:IntKind.i64.max = 9223372036854775807 := by decide
  omega
 rw [hg]
 refine gives_same h (x := .string (s ++ r)) ?_ (.p _ _ (.str _))
 simp only [binOp,Op.stringOp,if_neg hm]
 rfl

theorem give_scmp (h:Sim m w0 S0 Jo D Φ S st a w) {op:BinOp} {neg:Bool} (hop:(op = .eql∧neg = false) ∨ (op = .neq∧neg = true)) {t:TypeId} {x y:Operand} {s r:ByteArray} (hx:VRel Φ S w (.p (.str s)) (a.eval x)) (hy:VRel Φ S w (.p (.str r)) (a.eval y)) :
  Gives P m w0 S0 Jo D st a w (do eqGuard op t x y (a.eval x) (a.eval y); binOp op t (a.eval x) (a.eval y)) (.p (.bool (if neg then !(v_seq s r) else v_seq s r))) st.hp := by
 rw [inv_str hx,inv_str hy]
 have e:(s.toList == r.toList) = v_seq s r := by rw [ByteArray.toList_eq,ByteArray.toList_eq]; rfl
 rcases hop with ⟨rfl,rfl⟩ | ⟨rfl,rfl⟩
 ·have hg:eqGuard .eql t x y (.string s) (.string r) = pure () := rfl
  rw [hg]
  refine gives_same h (x := .bool (v_seq s r)) ?_ (.p _ _ (.bool _))
  simp only [binOp,Op.stringOp,e]
  rfl
 ·have hg:eqGuard .neq t x y (.string s) (.string r) = pure () := rfl
  rw [hg]
  refine gives_same h (x := .bool (!(v_seq s r))) ?_ (.p _ _ (.bool _))
  simp only [binOp,Op.stringOp,e]
  rfl

theorem give_ext (h:Sim m w0 S0 Jo D Φ S st a w) {i:Nat} {x:Value} {vs:List V} (hx:VRel Φ S w (.tup vs) x) {v:V} (hv:vs[i]? = some v):Gives P m w0 S0 Jo D st a w (Instr.extract x i) v st.hp := by
 obtain ⟨arr,rfl,hc⟩ := inv_tup hx
 have hlt := (List.getElem?_eq_some_iff.1 hv).1
 rw [← hc.1] at hlt
 have hv2 := hc.2 i v hv
 have e:arr[i]? = some arr[i] := by simp [hlt]
 have e2:arr.getD i undef = arr[i] := by simp [Array.getD,hlt]
 rw [e2] at hv2
 exact gives_same h (x := arr[i]) (by simp only [Instr.extract,e]; rfl) hv2

omit [Laid] in
theorem sl_len {k:Nat} {es:List (List Pv)} {full:Bool} {x:Value} (h:VRel Φ S w (.p (.sl k es full)) x):∃ b cap,x = .slice b es.length cap∧es.length≤cap∧(full = true→cap = es.length) := by
 cases h with
 | p _ _ h =>
  cases h with
  | slnil => exact ⟨_,_,rfl,Nat.le_refl _,fun _ => rfl⟩
  | sl0 _ _ a cap h => exact ⟨_,_,rfl,Nat.zero_le _,h⟩
  | sl _ _ _ b o n' cap cell hs hn' h0 hc hf hk h1 h2 => subst hn'; exact ⟨_,_,rfl,hc,hf⟩
omit [Laid] in
theorem ref_len {t ver o n k:Nat} {x:Value} (h:VRel Φ S w (.ref t ver o n k) x):∃ b cap,x = .slice b n cap := by
 cases h with
 | ref => exact ⟨_,_,rfl⟩
 | refv => exact ⟨_,_,rfl⟩

theorem give_len (h:Sim m w0 S0 Jo D Φ S st a w) {t ty:TypeId} {x:Value} :
  (∀ e k es full,P.underlying t = some (.slice e)→VRel Φ S w (.p (.sl k es full)) x→Gives P m w0 S0 Jo D st a w (Builtin.len_ #[t] ty #[x]) (.p (.int .i64 es.length)) st.hp) ∧
  (∀ e s ver o n k,P.underlying t = some (.slice e)→VRel Φ S w (.ref s ver o n k) x→Gives P m w0 S0 Jo D st a w (Builtin.len_ #[t] ty #[x]) (.p (.int .i64 n)) st.hp) ∧
  (∀ s,P.underlying t = some .string→VRel Φ S w (.p (.str s)) x→Gives P m w0 S0 Jo D st a w (Builtin.len_ #[t] ty #[x]) (.p (.int .i64 s.size)) st.hp) := by
 refine ⟨fun e k es full hu hx => ?_,fun e s ver o n k hu hx => ?_,fun s hu hx => ?_⟩
 ·obtain ⟨b,cap,rfl,_⟩ := sl_len hx
  refine gives_same h (x := .int .i64 es.length) ?_ (.p _ _ (.int _ _))
  simp [Builtin.len_,run_underlying hu,goInt]
 ·obtain ⟨b,cap,rfl⟩ := ref_len hx
  refine gives_same h (x := .int .i64 n) ?_ (.p _ _ (.int _ _))
  simp [Builtin.len_,run_underlying hu,goInt]
 ·rw [inv_str hx]
  refine gives_same h (x := .int .i64 s.size) ?_ (.p _ _ (.int _ _))
  simp [Builtin.len_,run_underlying hu,goInt]

theorem give_mm (h:Sim m w0 S0 Jo D Φ S st a w) {ts:Array TypeId} {ty:TypeId} {x y:Value} {k k' : IntKind} {n l:Int} (hx:VRel Φ S w (.p (.int k n)) x) (hy:VRel Φ S w (.p (.int k' l)) y) :
  Gives P m w0 S0 Jo D st a w (Builtin.max_ ts ty #[x,y]) (.p (.int k (if l > n then l else n))) st.hp∧Gives P m w0 S0 Jo D st a w (Builtin.min_ ts ty #[x,y]) (.p (.int k (if l < n then l else n))) st.hp := by
 rw [inv_int hx,inv_int hy]
 exact ⟨gives_same h (run_max_int2 w ts ty k k' n l) (.p _ _ (.int _ _)),gives_same h (run_min_int2 w ts ty k k' n l) (.p _ _ (.int _ _))⟩

theorem give_mm3 (h:Sim m w0 S0 Jo D Φ S st a w) {ts:Array TypeId} {ty:TypeId} {x y z:Value} {k k' k'' : IntKind} {n l q:Int} (hx:VRel Φ S w (.p (.int k n)) x) (hy:VRel Φ S w (.p (.int k' l)) y) (hz:VRel Φ S w (.p (.int k'' q)) z) :
  Gives P m w0 S0 Jo D st a w (Builtin.max_ ts ty #[x,y,z]) (.p (.int k (mm2 true (mm2 true n l) q))) st.hp∧Gives P m w0 S0 Jo D st a w (Builtin.min_ ts ty #[x,y,z]) (.p (.int k (mm2 false (mm2 false n l) q))) st.hp := by
 rw [inv_int hx,inv_int hy,inv_int hz]
 exact ⟨gives_same h (x := .int k (mm2 true (mm2 true n l) q)) rfl (.p _ _ (.int _ _)),gives_same h (x := .int k (mm2 false (mm2 false n l) q)) rfl (.p _ _ (.int _ _))⟩

theorem give_clo (h:Sim m w0 S0 Jo D Φ S st a w) {γ:Opd→V} (hγ:∀ x,VRel Φ S w (γ (cO x)) (a.eval x)) {f:FuncId} (hf:f < 1000000000) {caps:Array Operand}:Gives P m w0 S0 Jo D st a w (Instr.makeFunc (.func f) #[] (caps.map a.eval)) (.clo f ((caps.toList.map cO).map γ)) st.hp := by
 refine gives_same h (x := .func (.func f) #[] (caps.map a.eval)) rfl (.clo _ _ _ hf (by simp) ?_)
 intro i c hi
 rw [List.map_map,List.getElem?_map] at hi
 cases e:caps.toList[i]? with
 | none => simp [e] at hi
 | some o =>
  simp only [e,Option.map_some,Function.comp,sJ] at hi
  subst hi
  have:(caps.map a.eval).getD i undef = a.eval o := by rw [getD_of_list]; simp [e]
  rw [this]; exact hγ o
theorem give_bnd (h:Sim m w0 S0 Jo D Φ S st a w) {f:FuncId} {x:Value} {cs:List V} {ps:List Pv} (hx:VRel Φ S w (.agg cs) x) (hp:allP cs = some ps):Gives P m w0 S0 Jo D st a w (Instr.makeFunc (.func f) #[x] #[]) (.p (.fn (bmOf f) [ps])) st.hp := by
 cases hx with
 | agg _ arr hn hc =>
  have e := allP_map hp
  subst e
  refine gives_same h (x := .func (.func f) #[.agg arr] #[]) rfl (.p _ _ (.bnd _ f ps arr rfl (by simpa using hn) fun j y hy => ?_))
  have := hc j (.p y) (by rw [List.getElem?_map,hy]; rfl)
  cases this with | p _ _ h => exact h
end
end Go.Mx
namespace Go.Mx
variable [Laid]
open Go.RowKit

section
variable {P:Program} {m:Nat} {w0:World} {S0 Jo:Nat→Prop} {D:Bs} {Φ:Plc} {S:Nat→Prop} {st:St} {a:Act} {w:World}

def SubV (P:Program) (t:TypeId) (A:Array Value) (off:Nat) (x:Value):Prop :=
 (∃ n,sz? P t = some n∧agg? P t = some true∧∃ arr:Array Value,x = .agg arr∧arr.size = n∧∀ i,i < n→arr[i]? = A[off + i]?) ∨ (agg? P t = some false∧A[off]? = some x)

omit [Laid] in
theorem part_sub {arr A:Array Value} {nt off:Nat} (hs:arr.size = nt) (hA:∀ i,i < nt→arr[i]? = A[off + i]?) {t:TypeId} {n fo:Nat} (hn:sz? P t = some n) (h0:0 < n) (hle:fo + n≤nt) {b:Bool} (hb:agg? P t = some b) (w:World) :
  ∃ x,(part t arr fo).run P w = .ok x w∧SubV P t A (off + fo) x := by
 cases b with
 | true =>
  refine ⟨.agg (arr.extract fo (fo + n)),by simp [part,agg_run hb,sz_run hn],.inl ⟨n,hn,hb,_,rfl,by simp; omega,fun i hi => ?_⟩⟩
  rw [show off + fo + i = off + (fo + i) by omega,← hA (fo + i) (by omega)]
  simp [Array.getElem?_extract]
  intro h; omega
 | false =>
  have hlt:fo < arr.size := by omega
  refine ⟨arr[fo],?_,.inr ⟨hb,?_⟩⟩
  ·have e:arr[fo]? = some arr[fo] := by simp [hlt]
   simp only [part,Sem.run_bind,agg_run hb,Result.andThen_ok,Bool.false_eq_true,if_false,e]; rfl
  ·rw [← hA fo (by omega)]; simp [hlt]

omit [Laid] in
theorem eqCells_append (xs ys:List V):∀ (l r:List (Bool×Nat)) (b:Bool),eqCells xs ys (l ++ r) = some b→∃ b1 b2,eqCells xs ys l = some b1∧eqCells xs ys r = some b2∧b = (b1 && b2)
 | [],r,b,h => ⟨true,b,rfl,h,by simp⟩
 | (i,o) :: l,r,b,h => by
  simp only [List.cons_append,eqCells] at h
  split at h
  ·rename_i x y hx hy
   split at h
   ·rename_i c d hc hd
    simp only [sJ] at h
    obtain ⟨b1,b2,h1,h2,h3⟩ := eqCells_append xs ys l r d hd
    refine ⟨c && b1,b2,by simp only [eqCells,hx,hy,hc,h1],h2,?_⟩
    rw [← h,h3,Bool.and_assoc]
   ·cases h
  ·cases h

omit [Laid] in
theorem agg_of {t:TypeId} {d:TypeDesc} (h:P.underlying t = some d):agg? P t = some (isAggD d) := by simp [agg?,h]

omit [Laid] in
theorem eq_run:∀ (d:Nat) (t off:Nat) (l:List (Bool×Nat)),eqOffs P d t off = some l→∀ (E:Nat) (A B:Array Value) (x y:Value),SubV P t A off x→SubV P t B off y →
  ∀ (xs ys:List V),Cells Φ S w xs A→Cells Φ S w ys B→∀ b,eqCells xs ys l = some b→(Op.equalIn (E + d) t x y).run P w = .ok b w
 | 0,t,off,l,h,_,_,_,_,_,_,_,_,_,_,_,_,_ => by simp [eqOffs] at h
 | d + 1,t,off,l,h,E,A,B,x,y,hx,hy,xs,ys,hA,hB,b,hb => by
  have leaf:∀ i,agg? P t = some false→l = [(i,off)]→∃ u v,eqCell i u v = some b∧VRel Φ S w u x∧VRel Φ S w v y := by
   intro i ha hl
   subst hl
   have get:∀ {A:Array Value} {x:Value} {xs:List V} {u:V},SubV P t A off x→Cells Φ S w xs A→xs[off]? = some u→VRel Φ S w u x := by
    intro A x xs u hx hA hu
    rcases hx with ⟨n,_,h2,_⟩ | ⟨_,h2⟩
    ·rw [ha] at h2; cases h2
    ·have := hA.2 off u hu
     obtain ⟨hlt,e⟩ := Array.getElem?_eq_some_iff.1 h2
     have e2:A.getD off undef = A[off] := by simp [Array.getD,hlt]
     rw [e2,e] at this; exact this
   simp only [eqCells] at hb
   split at hb
   ·rename_i u v hu hv
    split at hb
    ·rename_i c c' hc hc'
     simp only [sJ] at hb hc'
     subst hc'
     rw [Bool.and_true] at hb
     subst hb
     exact ⟨u,v,hc,get hx hA hu,get hy hB hv⟩
    ·cases hb
   ·cases hb
  have big:∀ {nt},sz? P t = some nt→agg? P t = some true→∃ ax ay:Array Value,x = .agg ax∧y = .agg ay∧ax.size = nt∧ay.size = nt∧(∀ i,i < nt→ax[i]? = A[off + i]?)∧(∀ i,i < nt→ay[i]? = B[off + i]?) := by
   intro nt hn ha
   rcases hx with ⟨n,h1,_,ax,rfl,h3,h4⟩ | ⟨h1,_⟩
   ·rcases hy with ⟨n',g1,_,ay,rfl,g3,g4⟩ | ⟨g1,_⟩
    ·rw [hn] at h1 g1
     simp only [sJ] at h1 g1
     subst h1 g1
     exact ⟨ax,ay,rfl,rfl,h3,g3,h4,g4⟩
    ·rw [ha] at g1; cases g1
   ·rw [ha] at h1; cases h1
  simp only [eqOffs] at h
  split at h
  ·rename_i k n hu hn
   simp only [sJ] at h
   obtain ⟨u,v,hc,h1,h2⟩ := leaf true (by rw [agg_of hu]; rfl) h.symm
   unfold eqCell at hc
   split at hc
   ·split at hc
    ·rename_i e
     simp only [sJ] at hc
     rw [inv_int h1,inv_int h2,← hc,e]
     exact run_equalIn_int w _ _ _ _ _ _ hu
    ·cases hc
   ·rename_i e; cases e
   ·cases hc
  ·rename_i n hu hn
   simp only [sJ] at h
   obtain ⟨u,v,hc,h1,h2⟩ := leaf false (by rw [agg_of hu]; rfl) h.symm
   unfold eqCell at hc
   split at hc
   ·rename_i e; cases e
   ·simp only [sJ] at hc
    rw [inv_bool h1,inv_bool h2,← hc]
    exact run_equalIn_bool w _ _ _ _ hu
   ·cases hc
  ·rename_i fields nt hu hn
   split at h
   ·cases h
   ·rename_i hst
    obtain ⟨ax,ay,rfl,rfl,h1,h2,h3,h4⟩ := big hn (by rw [agg_of hu]; rfl)
    have hf:P.fieldsOf t = fields := by simp [Program.fieldsOf,hu]
    rw [show E + (d + 1) = (E + d) + 1 by omega,run_equalIn_struct w (E + d) t ax ay (by rw [hf]; exact hu) (by simpa using hst),hf]
    have key:∀ (fs:List Field) (l:List (Bool×Nat)),fs.foldr (fun f acc => match acc,sz? P f.type,(if f.name = "_" then none else eqOffs P d f.type (off + f.offset)) with
     | some r,some n,some l => if 0 < n∧f.offset + n≤nt then some (l ++ r) else none
     | _,_,_ => none) (some []) = some l→∀ b,eqCells xs ys l = some b→(Op.eqFields (E + d) ax ay fs).run P w = .ok b w := by
     intro fs
     induction fs with
     | nil => intro l hl b hb; simp at hl; subst hl; simp [eqCells] at hb; subst hb; rfl
     | cons f fs ih =>
      intro l hl b hb
      simp only [List.foldr_cons] at hl
      split at hl
      ·rename_i r n l' hr hn' hl'
       split at hl
       ·rename_i hc
        simp only [sJ] at hl
        subst hl
        split at hl'
        ·cases hl'
        ·rename_i hname
         obtain ⟨b1,b2,e1,e2,rfl⟩ := eqCells_append xs ys l' r b hb
         have hagg:∃ bb,agg? P f.type = some bb := by
          cases hq:P.underlying f.type with
          | none => cases d <;> simp [eqOffs,hq] at hl'
          | some dd => exact ⟨_,agg_of hq⟩
         obtain ⟨bb,hbb⟩ := hagg
         obtain ⟨x',p1,p2⟩ := part_sub h1 h3 hn' hc.1 hc.2 hbb w
         obtain ⟨y',q1,q2⟩ := part_sub h2 h4 hn' hc.1 hc.2 hbb w
         have hr1 := eq_run d f.type (off + f.offset) l' hl' E A B x' y' p2 q2 xs ys hA hB b1 e1
         have hr2 := ih r hr b2 e2
         simp only [Op.eqFields,ne_eq,hname,not_false_eq_true,if_true,Sem.run_bind,p1,q1,hr1,Result.andThen_ok,Sem.run_ite]
         cases b1
         ·simp
         ·simpa using hr2
       ·cases hl
      ·cases hl
    exact key _ _ h b hb
  ·rename_i len elem nt hu hn
   split at h
   ·rename_i n hn'
    split at h
    ·rename_i hc
     obtain ⟨ax,ay,rfl,rfl,h1,h2,h3,h4⟩ := big hn (by rw [agg_of hu]; rfl)
     have hi:∃ i,P.info? elem = some i := by
      unfold sz? at hn'
      cases hq:P.info? elem with
      | none => simp [hq] at hn'
      | some i => exact ⟨i,rfl⟩
     obtain ⟨i,hi⟩ := hi
     have hcell:P.cellsOf elem = n := by
      simp [sz?,hi] at hn'; simp [Program.cellsOf,hi,hn']
     rw [show E + (d + 1) = (E + d) + 1 by omega,run_equalIn_array w (E + d) ax ay hu hi,hcell]
     have key:∀ (is:List Nat) (l:List (Bool×Nat)),(∀ i∈is,i < len)→is.foldr (fun i acc => match acc,eqOffs P d elem (off + i * n) with | some r,some l => some (l ++ r) | _,_ => none) (some []) = some l →
       ∀ b,eqCells xs ys l = some b→(Op.eqItems (E + d) elem n ax ay is).run P w = .ok b w := by
      intro is
      induction is with
      | nil => intro l _ hl b hb; simp at hl; subst hl; simp [eqCells] at hb; subst hb; rfl
      | cons j is ih =>
       intro l hlt hl b hb
       simp only [List.foldr_cons] at hl
       split at hl
       ·rename_i r l' hr hl'
        simp only [sJ] at hl
        subst hl
        obtain ⟨b1,b2,e1,e2,rfl⟩ := eqCells_append xs ys l' r b hb
        have hagg:∃ bb,agg? P elem = some bb := by
         cases hq:P.underlying elem with
         | none => cases d <;> simp [eqOffs,hq] at hl'
         | some dd => exact ⟨_,agg_of hq⟩
        obtain ⟨bb,hbb⟩ := hagg
        have hj:j * n + n≤nt := by
         have:(j + 1) * n≤len * n := Nat.mul_le_mul_right n (hlt j (by simp))
         rw [Nat.add_mul,Nat.one_mul] at this
         omega
        obtain ⟨x',p1,p2⟩ := part_sub h1 h3 hn' hc.1 hj hbb w
        obtain ⟨y',q1,q2⟩ := part_sub h2 h4 hn' hc.1 hj hbb w
        have hr1 := eq_run d elem (off + j * n) l' hl' E A B x' y' p2 q2 xs ys hA hB b1 e1
        have hr2 := ih r (fun i hi => hlt i (by simp [hi])) hr b2 e2
        simp only [Op.eqItems,Sem.run_bind,p1,q1,hr1,Result.andThen_ok,Sem.run_ite]
        cases b1
        ·simp
        ·simpa using hr2
       ·cases hl
     exact key _ _ (fun i hi => by simpa using hi) h b hb
    ·cases h
   ·cases h
  ·cases h

theorem give_eqa (h:Sim m w0 S0 Jo D Φ S st a w) {op:BinOp} {neg:Bool} (hop:(op = .eql∧neg = false) ∨ (op = .neq∧neg = true)) {t:TypeId} {x y:Operand} (hg:P.eqGuardType P.depth t = false) {l:List (Bool×Nat)} {n:Nat} (hl:eqOffs P 8 t 0 = some l) (hn:sz? P t = some n)
  {xs ys:List V} (hx:VRel Φ S w (.agg xs) (a.eval x)) (hy:VRel Φ S w (.agg ys) (a.eval y)) (hxl:xs.length = n) (hyl:ys.length = n) {b:Bool} (hb:eqCells xs ys l = some b) (ha:agg? P t = some true) :
  Gives P m w0 S0 Jo D st a w (do eqGuard op t x y (a.eval x) (a.eval y); binOp op t (a.eval x) (a.eval y)) (.p (.bool (if neg then !b else b))) st.hp := by
 obtain ⟨ax,ex,hcx⟩ := inv_agg hx
 obtain ⟨ay,ey,hcy⟩ := inv_agg hy
 rw [ex,ey]
 have s1:SubV P t ax 0 (.agg ax) := .inl ⟨n,hn,ha,ax,rfl,by rw [hcx.1]; exact hxl,fun i _ => by simp⟩
 have s2:SubV P t ay 0 (.agg ay) := .inl ⟨n,hn,ha,ay,rfl,by rw [hcy.1]; exact hyl,fun i _ => by simp⟩
 have hr := eq_run 8 t 0 l hl 9992 ax ay _ _ s1 s2 xs ys hcx hcy b hb
 rcases hop with ⟨rfl,rfl⟩ | ⟨rfl,rfl⟩
 ·refine gives_same h (x := .bool b) ?_ (.p _ _ (.bool _))
  rw [Sem.run_bind,run_eqGuard_agg w _ t x y ax ay hg,Result.andThen_ok,run_eql_struct,hr]; rfl
 ·refine gives_same h (x := .bool (!b)) ?_ (.p _ _ (.bool _))
  rw [Sem.run_bind,run_eqGuard_agg w _ t x y ax ay hg,Result.andThen_ok,run_neq_struct,hr]; rfl

theorem give_eqb (h:Sim m w0 S0 Jo D Φ S st a w) {op:BinOp} {neg:Bool} (hop:(op = .eql∧neg = false) ∨ (op = .neq∧neg = true)) {t:TypeId} {x y:Operand} (hu:P.underlying t = some .bool)
  {b c:Bool} (hx:VRel Φ S w (.p (.bool b)) (a.eval x)) (hy:VRel Φ S w (.p (.bool c)) (a.eval y)) :
  Gives P m w0 S0 Jo D st a w (do eqGuard op t x y (a.eval x) (a.eval y); binOp op t (a.eval x) (a.eval y)) (.p (.bool (if neg then !(b == c) else b == c))) st.hp := by
 rw [inv_bool hx,inv_bool hy,eqGuard_at_bool]
 rcases hop with ⟨rfl,rfl⟩ | ⟨rfl,rfl⟩
 ·refine gives_same h (x := .bool (b == c)) ?_ (.p _ _ (.bool _))
  have := run_equalIn_bool w 9999 t b c hu
  simp only [binOp,Op.equal,Op.maxDepth]
  simp [this]
 ·refine gives_same h (x := .bool (!(b == c))) ?_ (.p _ _ (.bool _))
  have := run_equalIn_bool w 9999 t b c hu
  simp only [binOp,Op.equal,Op.maxDepth]
  simp [this]
end
end Go.Mx
namespace Go.Mx
variable [Laid]
open Go.RowKit

section
variable {P:Program} {m:Nat} {w0:World} {S0 Jo:Nat→Prop} {D:Bs} {Φ:Plc} {S:Nat→Prop} {st:St} {a:Act} {w:World}

omit [Laid] in
theorem flat_length {k:Nat}:∀ (es:List (List Pv)),(∀ e∈es,e.length = k)→es.flatten.length = es.length * k
 | [],_ => by simp
 | e :: es,h => by
  have := flat_length es (fun e he => h e (by simp [he]))
  simp only [List.flatten_cons,List.length_append,List.length_cons,this,h e (by simp),Nat.add_mul,Nat.one_mul]; omega

omit [Laid] in
theorem flat_get {k:Nat}:∀ (es:List (List Pv)),(∀ e∈es,e.length = k)→∀ (q:Nat) (x:Pv),es.flatten[q]? = some x→∃ i j e,es[i]? = some e∧e[j]? = some x∧q = i * k + j
 | [],_,q,x,h => by simp at h
 | e :: es,hk,q,x,h => by
  rw [List.flatten_cons,List.getElem?_append] at h
  split at h
  ·exact ⟨0,q,e,rfl,h,by simp⟩
  ·obtain ⟨i,j,e',h1,h2,h3⟩ := flat_get es (fun e he => hk e (by simp [he])) _ x h
   have he := hk e (by simp)
   exact ⟨i + 1,j,e',by simpa using h1,h2,by rw [Nat.add_mul,Nat.one_mul]; omega⟩

omit [Laid] in
theorem chunk_flatten {α:Type} {k:Nat}:∀ (n:Nat) (l:List α),l.length = n * k→(chunk k n l).flatten = l
 | 0,l,h => by simp at h; subst h; rfl
 | n + 1,l,h => by
  rw [Nat.add_mul,Nat.one_mul] at h
  have := chunk_flatten (k := k) n (l.drop k) (by rw [List.length_drop]; omega)
  simp only [chunk,List.flatten_cons,this,List.take_append_drop]

theorem sliceP_rel (h:Sim m w0 S0 Jo D Φ S st a w) {k:Nat} {v:V} {x:Value} (hv:VRel Φ S w v x) {es:List (List Pv)} (hs:sliceP st.hp k v = some es) :
  ∃ base cap,x = .slice base es.length cap∧es.length≤cap∧es.flatten.length = es.length * k ∧
   (0 < es.length→∃ c o,∃ news:List Value,base = some ⟨c,o,none⟩∧news.length = es.length * k∧(∀ j u,news[j]? = some u→w.cell? ((⟨c,o,none⟩ : Addr).add j) = some u) ∧
    ∀ j p,es.flatten[j]? = some p→PRel S w p (news.getD j undef)) := by
 cases v with
 | p y =>
  cases y with
  | sl k' es' full =>
   cases es' with
   | nil =>
    simp only [sliceP,sJ] at hs
    subst hs
    obtain ⟨b,cap,rfl,hc,_⟩ := sl_len hv
    exact ⟨b,cap,rfl,by simp,by simp,by simp⟩
   | cons e es' =>
    simp only [sliceP] at hs
    split at hs
    ·rename_i hk
     subst hk
     simp only [sJ] at hs
     subst hs
     cases hv with
     | p _ _ hp =>
      cases hp with
      | sl _ _ _ b o n cap cell hS hn h0 hc hf hk h1 h2 =>
       subst hn
       have hfl := flat_length (e :: es') hk
       refine ⟨some ⟨b,o,none⟩,cap,rfl,hc,hfl,fun _ => ⟨b,o,(List.range ((e :: es').length * k')).map (fun j => (w.cell? ⟨b,o + j,none⟩).getD undef),rfl,by simp,?_,?_⟩⟩
       ·intro j u hu
        rw [List.getElem?_map] at hu
        by_cases hj:j < (e :: es').length * k'
        ·rw [List.getElem?_range hj] at hu
         simp only [Option.map_some,sJ] at hu
         have hx:(e :: es').flatten[j]? = some ((e :: es').flatten[j]'(by rw [hfl]; exact hj)) := List.getElem?_eq_getElem _
         obtain ⟨i,l,e',g1,g2,g3⟩ := flat_get _ hk j _ hx
         have := h1 i l e' _ g1 g2
         rw [addr_add,← hu,g3,this]; rfl
        ·rw [List.getElem?_eq_none (by simpa using hj)] at hu; simp at hu
       ·intro j p hp
        have hj:j < (e :: es').length * k' := by rw [← hfl]; exact (List.getElem?_eq_some_iff.1 hp).1
        obtain ⟨i,l,e',g1,g2,g3⟩ := flat_get _ hk j _ hp
        have e1 := h1 i l e' _ g1 g2
        have e2 := h2 i l e' _ g1 g2
        rw [List.getD,List.getElem?_map,List.getElem?_range hj]
        simp only [Option.map_some,Option.getD_some,g3,e1]
        exact e2
    ·cases hs
  | _ => simp [sliceP] at hs
 | ref t ver o n k' =>
  simp only [sliceP] at hs
  split at hs
  ·rename_i b hb
   split at hs
   ·rename_i hc
    obtain ⟨hver,hok,rfl,hle⟩ := hc
    subst hver
    cases hps:allP ((b.cs.drop o).take (n * k')) with
    | none => simp [hps] at hs
    | some ps =>
     simp only [hps,Option.map_some,sJ] at hs
     have hmap := allP_map hps
     have hpl:ps.length = n * k' := by
      have := congrArg List.length hmap
      simp at this; omega
     have hel:es.length = n := by rw [← hs]; exact chunk_length _ _ _
     have hefl:es.flatten = ps := by rw [← hs]; exact chunk_flatten n ps hpl
     cases hv with
     | ref _ _ _ _ _ c sz cap hΦ hn hcap =>
      obtain ⟨arr,ty,fz,k1,k2,k3⟩ := cells_at h hb hok hΦ
      refine ⟨_,cap,by rw [hel],by rw [hel]; exact hn,by rw [hefl,hel]; exact hpl,fun _ => ⟨c,o,(List.range (n * k')).map (fun j => arr.getD (o + j) undef),rfl,by simp [hel],?_,?_⟩⟩
      ·intro j u hu
       rw [List.getElem?_map] at hu
       by_cases hj:j < n * k'
       ·rw [List.getElem?_range hj] at hu
        simp only [Option.map_some,sJ] at hu
        rw [addr_add,← hu]
        exact cell_getD k1 (by omega)
       ·rw [List.getElem?_eq_none (by simpa using hj)] at hu; simp at hu
      ·intro j p hp
       rw [hefl] at hp
       have hj:j < n * k' := by rw [← hpl]; exact (List.getElem?_eq_some_iff.1 hp).1
       rw [List.getD,List.getElem?_map,List.getElem?_range hj]
       simp only [Option.map_some,Option.getD_some]
       have:b.cs[o + j]? = some (.p p) := by
        have e1:((b.cs.drop o).take (n * k'))[j]? = some (.p p) := by rw [hmap,List.getElem?_map,hp]; rfl
        rw [List.getElem?_take,if_pos hj,List.getElem?_drop] at e1; exact e1
       have := k3 _ _ this
       cases this with | p _ _ h => exact h
     | refv _ _ _ a0 hΦ =>
      have:es = [] := List.eq_nil_of_length_eq_zero hel
      subst this
      exact ⟨a0,0,rfl,by simp,by simp,by simp⟩
   ·cases hs
  ·cases hs
 | _ => simp [sliceP] at hs

theorem bound_rel {γ:Opd→V} (hγ:∀ x,VRel Φ S w (γ (cO x)) (a.eval x)) {d l:Int} {lo:Option Operand} (hb:bound γ d (lo.map cO) = some l):(lo = none∧l = d) ∨ ∃ o k,lo = some o∧a.eval o = .int k l := by
 cases lo with
 | none => simp [bound] at hb; exact .inl ⟨rfl,hb.symm⟩
 | some o =>
  simp only [bound,Option.map_some] at hb
  split at hb
  ·rename_i k n hg
   simp only [sJ] at hb
   subst hb
   have := hγ o
   rw [hg] at this
   exact .inr ⟨o,k,rfl,inv_int this⟩
  ·cases hb

omit [Laid] in
theorem run_sliceBounds (isS:Bool) (len cap:Nat) (lo hi:Option Value) (l h:Nat) (hlo:(lo = none∧l = 0) ∨ ∃ k,lo = some (.int k (l:Int))) (hhi:(hi = none∧h = len) ∨ ∃ k,hi = some (.int k (h:Int)))
  (h1:l≤h) (h2:h≤cap) (w:World):(Instr.sliceBounds isS len cap lo hi none).run P w = .ok (l,h,cap) w := by
 rcases hlo with ⟨rfl,rfl⟩ | ⟨k,rfl⟩ <;> rcases hhi with ⟨rfl,rfl⟩ | ⟨k',rfl⟩ <;>
  simp [Instr.sliceBounds,Instr.sliceBound,asIntOf,h1,h2]

omit [Laid] in
theorem run_sliceAt_sl {t e:TypeId} {k:Nat} (hu:P.underlying t = some (.slice e)) (hk:sz? P e = some k) (base:Option Addr) (len cap:Nat) (lo hi:Option Value) (l h:Nat)
  (hlo:(lo = none∧l = 0) ∨ ∃ k,lo = some (.int k (l:Int))) (hhi:(hi = none∧h = len) ∨ ∃ k,hi = some (.int k (h:Int))) (h1:l≤h) (h2:h≤cap) (w:World) :
  (Instr.sliceAt t (.slice base len cap) lo hi none).run P w = .ok (.slice (if cap = l then base else base.map (·.add (l * k))) (h - l) (cap - l)) w := by
 simp only [Instr.sliceAt,Instr.slice,Sem.run_bind,run_underlying hu,Result.andThen_ok,run_sliceBounds true len cap lo hi l h hlo hhi h1 h2,sz_run hk]
 rfl

omit [Laid] in
theorem sl_drop {k:Nat} {es:List (List Pv)} {full full' : Bool} {x:Value} (hv:VRel Φ S w (.p (.sl k es full)) x) {l h:Nat} (h1:l≤h) (h2:h≤es.length) (hf:full' = true→full = true∧h = es.length) :
  ∃ base cap,x = .slice base es.length cap∧es.length≤cap∧VRel Φ S w (.p (.sl k ((es.drop l).take (h - l)) full')) (.slice (if cap = l then base else base.map (·.add (l * k))) (h - l) (cap - l)) := by
 obtain ⟨base,cap,rfl,hc,hcf⟩ := sl_len hv
 refine ⟨base,cap,rfl,hc,.p _ _ ?_⟩
 have hlen:((es.drop l).take (h - l)).length = h - l := by simp; omega
 have hcap:full' = true→cap - l = h - l := fun e => by obtain ⟨e1,e2⟩ := hf e; rw [hcf e1]; omega
 rcases Nat.eq_zero_or_pos (h - l) with h0 | h0
 ·have hnil:(es.drop l).take (h - l) = [] := List.eq_nil_of_length_eq_zero (by omega)
  rw [hnil,h0]
  cases hbase:(if cap = l then base else base.map (·.add (l * k))) with
  | some ad => exact .sl0 k full' _ _ (fun e => by have := hcap e; omega)
  | none =>
   have hb:base = none := by
    split at hbase
    ·exact hbase
    ·cases base with
     | none => rfl
     | some _ => simp at hbase
   subst hb
   cases hv with
   | p _ _ hp => cases hp with
    | slnil => simp; exact .slnil _ _
 ·cases hv with
  | p _ _ hp =>
   cases hp with
   | slnil => simp at h2; omega
   | sl0 => simp at h2; omega
   | sl _ _ _ b o n cap cell hS hn h0' hc' hf' hk g1 g2 =>
    rw [if_neg (by omega)]
    simp only [Option.map_some,addr_add]
    have hget:∀ (i:Nat) (e:List Pv),((es.drop l).take (h - l))[i]? = some e→es[l + i]? = some e := by
     intro i e he
     rw [List.getElem?_take] at he
     split at he
     ·rwa [List.getElem?_drop] at he
     ·cases he
    refine .sl k _ full' b _ _ _ (fun i j => cell (l + i) j) hS hlen h0 (by omega) hcap (fun e he => hk e (List.mem_of_mem_drop (List.mem_of_mem_take he))) ?_ ?_
    ·intro i j e x he hx
     have := g1 (l + i) j e x (hget i e he) hx
     rw [Nat.add_mul] at this
     rw [← this]; congr 2; omega
    ·intro i j e x he hx
     exact g2 (l + i) j e x (hget i e he) hx

omit [Laid] in
theorem run_sliceAt_str {t:TypeId} (hu:P.underlying t = some .string) (s:ByteArray) (lo hi:Option Value) (l h:Nat)
  (hlo:(lo = none∧l = 0) ∨ ∃ k,lo = some (.int k (l:Int))) (hhi:(hi = none∧h = s.size) ∨ ∃ k,hi = some (.int k (h:Int))) (h1:l≤h) (h2:h≤s.size) (w:World) :
  (Instr.sliceAt t (.string s) lo hi none).run P w = .ok (.string (s.extract l h)) w := by
 simp only [Instr.sliceAt,Instr.slice,Sem.run_bind,run_underlying hu,Result.andThen_ok,Option.isSome_none,Bool.false_eq_true,if_false,run_sliceBounds false s.size s.size lo hi l h hlo hhi h1 h2]
 rfl
theorem give_ssl (h:Sim m w0 S0 Jo D Φ S st a w) {γ:Opd→V} (hγ:∀ x,VRel Φ S w (γ (cO x)) (a.eval x)) {t:TypeId} (hu:P.underlying t = some .string) {x:Value} {lo hi:Option Operand} {s:ByteArray} {l hh:Int} (hx:VRel Φ S w (.p (.str s)) x) (hl:bound γ 0 (lo.map cO) = some l) (hhh:bound γ s.size (hi.map cO) = some hh) (h0:0≤l) (h1:l≤hh) (h2:hh≤s.size) :
  Gives P m w0 S0 Jo D st a w (Instr.sliceAt t x (lo.map a.eval) (hi.map a.eval) none) (.p (.str (s.extract l.toNat hh.toNat))) st.hp := by
 rw [inv_str hx]
 refine gives_same h (run_sliceAt_str hu s _ _ l.toNat hh.toNat ?_ ?_ (by omega) (by omega) w) (.p _ _ (.str _))
 ·rcases bound_rel hγ hl with ⟨e,rfl⟩ | ⟨o,kk,rfl,he⟩
  ·exact .inl ⟨by rw [e]; rfl,rfl⟩
  ·exact .inr ⟨kk,by simp [he,Int.toNat_of_nonneg h0]⟩
 ·rcases bound_rel hγ hhh with ⟨e,rfl⟩ | ⟨o,kk,rfl,he⟩
  ·exact .inl ⟨by rw [e]; rfl,by simp⟩
  ·exact .inr ⟨kk,by simp [he,Int.toNat_of_nonneg (show 0≤hh by omega)]⟩

omit [Laid] in
theorem bytesV_get:∀ {es:List (List Pv)} {l:List UInt8},bytesV es = some l→es.length = l.length∧∀ j (hj:j < l.length),es[j]? = some [.int .u8 (l[j].toNat:Int)]
 | [],l,h => by
  have:some ([]:List UInt8) = some l := h
  simp only [sJ] at this
  subst this
  exact ⟨rfl,fun j hj => absurd hj (Nat.not_lt_zero _)⟩
 | e :: es,l,h => by
  unfold bytesV at h
  rw [List.mapM_cons] at h
  cases hb:byteV e with
  | none => rw [hb] at h; cases h
  | some b =>
   cases hr:List.mapM byteV es with
   | none => rw [hb,hr] at h; cases h
   | some r =>
    rw [hb,hr] at h
    have:some (b :: r) = some l := h
    simp only [sJ] at this
    subst this
    obtain ⟨h1,h2⟩ := bytesV_get (es := es) (l := r) hr
    refine ⟨by simp [h1],fun j hj => ?_⟩
    cases j with
    | zero =>
     unfold byteV at hb
     split at hb
     ·rename_i n
      split at hb
      ·rename_i hn
       simp only [sJ] at hb
       subst hb
       have:((UInt8.ofNat n.toNat).toNat:Int) = n := by
        rw [UInt8.toNat_ofNat']; omega
       show some [Pv.int .u8 n] = some [Pv.int .u8 ((UInt8.ofNat n.toNat).toNat:Int)]
       rw [this]
      ·cases hb
     ·cases hb
    | succ j => exact h2 j (Nat.lt_of_succ_lt_succ hj)
omit [Laid] in
theorem run_isn (d:Nat) {t:TypeId} {ms:Array (String×TypeId)} (hu:P.underlying t = some (.interface ms)) (w:World):(Op.equalIn (d + 1) t .nilIface .nilIface).run P w = .ok true w := by
 simp [Op.equalIn,run_underlying hu]
omit [Laid] in
theorem run_iss (d:Nat) {t:TypeId} {ms:Array (String×TypeId)} (hu:P.underlying t = some (.interface ms)) (tp:TypeId) (p:Value) (w:World):(Op.equalIn (d + 1) t (.iface tp p) .nilIface).run P w = .ok false w := by
 simp [Op.equalIn,run_underlying hu]
theorem give_isi (h:Sim m w0 S0 Jo D Φ S st a w) {op:BinOp} {neg:Bool} (hop:(op = .eql∧neg = false) ∨ (op = .neq∧neg = true)) {t:TypeId} {ms:Array (String×TypeId)} (hu:P.underlying t = some (.interface ms)) {x:Operand} {b:Bool} (hx:VRel Φ S w (.p (.ifc b)) (a.eval x)) :
  Gives P m w0 S0 Jo D st a w (do eqGuard op t x (.const .nilIface) (a.eval x) (a.eval (.const .nilIface)); binOp op t (a.eval x) (a.eval (.const .nilIface))) (.p (.bool (if neg then !b else b))) st.hp := by
 have key:(Op.equalIn (9999 + 1) t (a.eval x) .nilIface).run P w = .ok b w∧eqGuard op t x (.const .nilIface) (a.eval x) .nilIface = pure ()∧binOp op t (a.eval x) .nilIface = (match op with | .eql => do pure (.bool (← Op.equal t (a.eval x) .nilIface)) | _ => do pure (.bool (!(← Op.equal t (a.eval x) .nilIface)))) := by
  cases hx with
  | p _ _ hx =>
   generalize a.eval x = v at hx
   cases hx with
   | ifn =>
    refine ⟨run_isn 9999 hu w,?_,?_⟩
    ·rcases hop with ⟨rfl,_⟩ | ⟨rfl,_⟩ <;> cases x <;> rfl
    ·rcases hop with ⟨rfl,_⟩ | ⟨rfl,_⟩ <;> rfl
   | ifs tp p =>
    refine ⟨run_iss 9999 hu tp p w,?_,?_⟩
    ·rcases hop with ⟨rfl,_⟩ | ⟨rfl,_⟩ <;> rfl
    ·rcases hop with ⟨rfl,_⟩ | ⟨rfl,_⟩ <;> rfl
 obtain ⟨k1,k2,k3⟩ := key
 show Gives P m w0 S0 Jo D st a w (do eqGuard op t x (.const .nilIface) (a.eval x) .nilIface; binOp op t (a.eval x) .nilIface) _ st.hp
 rw [k2,k3]
 rcases hop with ⟨rfl,rfl⟩ | ⟨rfl,rfl⟩
 ·refine gives_same h (x := .bool b) ?_ (.p _ _ (.bool _))
  simp only [Op.equal,Op.maxDepth]
  simp [k1]
 ·refine gives_same h (x := .bool (!b)) ?_ (.p _ _ (.bool _))
  simp only [Op.equal,Op.maxDepth]
  simp [k1]
theorem give_sof (h:Sim m w0 S0 Jo D Φ S st a w) {src dst e:TypeId} (hs:P.underlying src = some (.slice e)) (he:P.underlying e = some (.int .u8)) (hd:P.underlying dst = some .string) {x:Value} {k:Nat} {es:List (List Pv)} {full:Bool} (hx:VRel Φ S w (.p (.sl k es full)) x) {l:List UInt8} (hl:bytesV es = some l) (hk1:k = 1 ∨ es.length = 0) :
  Gives P m w0 S0 Jo D st a w (convert src dst x) (.p (.str ⟨l.toArray⟩)) st.hp := by
 obtain ⟨hlen,hget⟩ := bytesV_get hl
 refine gives_same h (x := .string ⟨l.toArray⟩) ?_ (.p _ _ (.str _))
 cases hx with
 | p _ _ hx =>
  cases hx with
  | slnil =>
   obtain rfl:l = [] := List.length_eq_zero_iff.1 (by simpa using hlen.symm)
   simp [convert,run_underlying hs,run_underlying hd,run_underlying he,Conv.bytesToString]
   rfl
  | sl0 _ _ ad cap hc =>
   obtain rfl:l = [] := List.length_eq_zero_iff.1 (by simpa using hlen.symm)
   exact run_convert_bytes_back w src dst e ad cap [] hs he hd (fun j hj => absurd hj (Nat.not_lt_zero _))
  | sl _ _ _ b o n cap cell hS hn h0 hc hf hk h1 h2 =>
   have := run_convert_bytes_back w src dst e ⟨b,o,none⟩ cap l hs he hd (fun j hj => by
    have q1 := h1 j 0 _ _ (hget j hj) rfl
    have q2 := h2 j 0 _ _ (hget j hj) rfl
    rw [addr_add]
    have hne:es.length ≠ 0 := by omega
    rw [show k = 1 from hk1.resolve_right hne,show o + (j * 1 + 0) = o + j by omega] at q1
    rw [q1]
    generalize cell j 0 = c at q2
    cases q2
    rfl)
   rw [← hlen,hn] at this
   exact this

theorem give_sl (h:Sim m w0 S0 Jo D Φ S st a w) {γ:Opd→V} (hγ:∀ x,VRel Φ S w (γ (cO x)) (a.eval x)) {t e:TypeId} {k:Nat} (hu:P.underlying t = some (.slice e)) (hk:sz? P e = some k) {x:Value} {lo hi:Option Operand} :
  (∀ k' es full l hh,VRel Φ S w (.p (.sl k' es full)) x→bound γ 0 (lo.map cO) = some l→bound γ es.length (hi.map cO) = some hh→0≤l→l≤hh→hh≤es.length→(k' = k ∨ es.length = 0) →
   Gives P m w0 S0 Jo D st a w (Instr.sliceAt t x (lo.map a.eval) (hi.map a.eval) none) (.p (.sl k' ((es.drop l.toNat).take (hh.toNat - l.toNat)) (full && decide (hh = es.length)))) st.hp) ∧
  (∀ s ver o n l hh,VRel Φ S w (.ref s ver o n k) x→bound γ 0 (lo.map cO) = some l→bound γ n (hi.map cO) = some hh→0≤l→l < hh→hh≤n →
   Gives P m w0 S0 Jo D st a w (Instr.sliceAt t x (lo.map a.eval) (hi.map a.eval) none) (.ref s ver (o + l.toNat * k) (hh.toNat - l.toNat) k) st.hp) := by
 have hlo' : ∀ l,bound γ 0 (lo.map cO) = some l→0≤l→((lo.map a.eval) = none∧l.toNat = 0) ∨ ∃ k,(lo.map a.eval) = some (.int k (l.toNat:Int)) := by
  intro l hl h0
  rcases bound_rel hγ hl with ⟨rfl,rfl⟩ | ⟨o,kk,rfl,he⟩
  ·exact .inl ⟨rfl,rfl⟩
  ·exact .inr ⟨kk,by simp [he,Int.toNat_of_nonneg h0]⟩
 have hhi' : ∀ (n:Nat) hh,bound γ n (hi.map cO) = some hh→0≤hh→((hi.map a.eval) = none∧hh.toNat = n) ∨ ∃ k,(hi.map a.eval) = some (.int k (hh.toNat:Int)) := by
  intro n hh hl h0
  rcases bound_rel hγ hl with ⟨rfl,rfl⟩ | ⟨o,kk,rfl,he⟩
  ·exact .inl ⟨rfl,by simp⟩
  ·exact .inr ⟨kk,by simp [he,Int.toNat_of_nonneg h0]⟩
 constructor
 ·intro k' es full l hh hx hl hhh h0 h1 h2 hkk
  obtain ⟨base,cap,rfl,hc,hv⟩ := sl_drop (full' := full && decide (hh = es.length)) hx (l := l.toNat) (h := hh.toNat) (by omega) (by omega) (fun e => by simp at e; exact ⟨e.1,by omega⟩)
  refine gives_same h (run_sliceAt_sl hu hk base es.length cap _ _ l.toNat hh.toNat (hlo' l hl h0) (hhi' _ hh hhh (by omega)) (by omega) (by omega) w) ?_
  rcases hkk with rfl | hkk
  ·exact hv
  ·have e1:l.toNat = 0 := by omega
   have e2:l.toNat * k = l.toNat * k' := by rw [e1]; simp
   rw [e2]; exact hv
 ·intro s ver o n l hh hx hl hhh h0 h1 h2
  cases hx with
  | ref _ _ _ _ _ c sz cap hΦ hn hcap =>
   refine gives_same h (run_sliceAt_sl hu hk _ n cap _ _ l.toNat hh.toNat (hlo' l hl h0) (hhi' _ hh hhh (by omega)) (by omega) (by omega) w) ?_
   rw [if_neg (by omega)]
   simp only [Option.map_some,addr_add]
   refine .ref _ _ _ _ _ c sz _ hΦ (by omega) ?_
   have:l.toNat * k + (cap - l.toNat) * k = cap * k := by rw [← Nat.add_mul]; congr 1; omega
   omega
  | refv => omega

theorem give_sla (h:Sim m w0 S0 Jo D Φ S st a w) {γ:Opd→V} (hγ:∀ x,VRel Φ S w (γ (cO x)) (a.eval x)) {t e:TypeId} {k n:Nat} (hu:P.underlying t = some (.array n e)) (hk:sz? P e = some k) {x:Value} {lo hi:Option Operand} {s:Nat} {b:Blk} {o:Nat} {l hh:Int}
  (hx:VRel Φ S w (.ptr s b.ver o) x) (hb:st.hp[s]? = some b) (hok:b.st.ok = true) (hle:o + n * k≤b.cs.length) (hl:bound γ 0 (lo.map cO) = some l) (hhh:bound γ n (hi.map cO) = some hh) (h0:0≤l) (h1:l < hh) (h2:hh≤n) :
  Gives P m w0 S0 Jo D st a w (Instr.sliceAt t x (lo.map a.eval) (hi.map a.eval) none) (.ref s b.ver (o + l.toNat * k) (hh.toNat - l.toNat) k) st.hp := by
 have hlo' : ((lo.map a.eval) = none∧l.toNat = 0) ∨ ∃ k,(lo.map a.eval) = some (.int k (l.toNat:Int)) := by
  rcases bound_rel hγ hl with ⟨rfl,rfl⟩ | ⟨o,kk,rfl,he⟩
  ·exact .inl ⟨rfl,rfl⟩
  ·exact .inr ⟨kk,by simp [he,Int.toNat_of_nonneg h0]⟩
 have hhi' : ((hi.map a.eval) = none∧hh.toNat = n) ∨ ∃ k,(hi.map a.eval) = some (.int k (hh.toNat:Int)) := by
  rcases bound_rel hγ hhh with ⟨rfl,rfl⟩ | ⟨o,kk,rfl,he⟩
  ·exact .inl ⟨rfl,by simp⟩
  ·exact .inr ⟨kk,by simp [he,Int.toNat_of_nonneg (show 0≤hh by omega)]⟩
 obtain ⟨c,sz,hΦ,rfl⟩ := inv_ptr hx
 obtain ⟨arr,ty,fz,k1,k2,k3⟩ := cells_at h hb hok hΦ
 have hsz:b.cs.length≤sz := by
  have hB := h.hp s b hb
  unfold BRel at hB
  cases hs:b.st with
  | dead => rw [hs] at hok; cases hok
  | live =>
   obtain ⟨_,_,_,_,q,_⟩ := live_of h hb hs hΦ
   exact q
  | frozen =>
   rw [hs] at hB
   rcases hB with ⟨hB,_⟩ | ⟨c',sz',q1,q2,_,_,_,q3,q4,q5⟩
   ·rw [hB] at hΦ; cases hΦ
   ·rw [q1] at hΦ; injection hΦ with hΦ; injection hΦ with e1 e2
    subst e1 e2
    exact q4.2
 refine gives_same h (x := .slice (some ⟨c,o + l.toNat * k,none⟩) (hh.toNat - l.toNat) (n - l.toNat)) ?_ ?_
 ·simp only [Instr.sliceAt,Sem.run_bind,run_underlying hu,Result.andThen_ok,Instr.sureAddr,Sem.run_pure,run_sliceBounds false n n _ _ l.toNat hh.toNat hlo' hhi' (by omega) (by omega),sz_run hk]
  rw [if_neg (by omega),addr_add]
 ·refine .ref _ _ _ _ _ c sz _ hΦ (by omega) ?_
  have:l.toNat * k + (n - l.toNat) * k = n * k := by rw [← Nat.add_mul]; congr 1; omega
  omega

theorem give_sla_ipt (h:Sim m w0 S0 Jo D Φ S st a w) {γ:Opd→V} (hγ:∀ x,VRel Φ S w (γ (cO x)) (a.eval x)) {t e:TypeId} {k n:Nat} (hu:P.underlying t = some (.array n e)) (hk:sz? P e = some k) {x:Value} {lo hi:Option Operand} {cs:List Pv} {l hh:Int}
  (hx:VRel Φ S w (.ipt cs) x) (hle:n * k≤cs.length) (hl:bound γ 0 (lo.map cO) = some l) (hhh:bound γ n (hi.map cO) = some hh) (h0:0≤l) (h1:l < hh) (h2:hh≤n) :
  Gives P m w0 S0 Jo D st a w (Instr.sliceAt t x (lo.map a.eval) (hi.map a.eval) none) (.p (.sl k (((chunk k n cs).drop l.toNat).take (hh.toNat - l.toNat)) (decide (hh = n)))) st.hp := by
 have hlo' : ((lo.map a.eval) = none∧l.toNat = 0) ∨ ∃ k,(lo.map a.eval) = some (.int k (l.toNat:Int)) := by
  rcases bound_rel hγ hl with ⟨rfl,rfl⟩ | ⟨o,kk,rfl,he⟩
  ·exact .inl ⟨rfl,rfl⟩
  ·exact .inr ⟨kk,by simp [he,Int.toNat_of_nonneg h0]⟩
 have hhi' : ((hi.map a.eval) = none∧hh.toNat = n) ∨ ∃ k,(hi.map a.eval) = some (.int k (hh.toNat:Int)) := by
  rcases bound_rel hγ hhh with ⟨rfl,rfl⟩ | ⟨o,kk,rfl,he⟩
  ·exact .inl ⟨rfl,by simp⟩
  ·exact .inr ⟨kk,by simp [he,Int.toNat_of_nonneg (show 0≤hh by omega)]⟩
 obtain ⟨b,o,cell,rfl,hs,k1,k2⟩ := inv_ipt hx
 have hfull:PRel S w (.sl k (chunk k n cs) true) (.slice (some ⟨b,o,none⟩) n n) := by
  refine slice_rel true hs hle (Nat.le_refl _) (fun _ => rfl) ?_
  intro j p hp
  exact ⟨_,k1 j p hp,k2 j p hp⟩
 have hcl:(chunk k n cs).length = n := chunk_length _ _ _
 obtain ⟨base,cap,he,hc,hv⟩ := sl_drop (Φ := Φ) (full' := decide (hh = n)) (.p _ _ hfull) (l := l.toNat) (h := hh.toNat) (by omega) (by rw [hcl]; omega) (fun e => by simp at e; exact ⟨rfl,by rw [hcl]; omega⟩)
 injection he with e1 e2 e3
 subst e1 e3
 rw [if_neg (by omega)] at hv
 refine gives_same h (x := .slice (some ⟨b,o + l.toNat * k,none⟩) (hh.toNat - l.toNat) (n - l.toNat)) ?_ ?_
 ·simp only [Instr.sliceAt,Sem.run_bind,run_underlying hu,Result.andThen_ok,Instr.sureAddr,Sem.run_pure,run_sliceBounds false n n _ _ l.toNat hh.toNat hlo' hhi' (by omega) (by omega),sz_run hk]
  rw [if_neg (by omega),addr_add]
 ·simpa only [Option.map_some,addr_add] using hv

omit [Laid] in
theorem run_sliceBounds3 (len cap:Nat) (lo hi:Option Value) (mx:Value) (l h m:Nat) (hlo:(lo = none∧l = 0) ∨ ∃ k,lo = some (.int k (l:Int))) (hhi:∃ k,hi = some (.int k (h:Int))) (hmx:∃ k,mx = .int k (m:Int))
  (h1:l≤h) (h2:h≤m) (h3:m≤cap) (w:World):(Instr.sliceBounds true len cap lo hi (some mx)).run P w = .ok (l,h,m) w := by
 obtain ⟨k3,rfl⟩ := hmx
 obtain ⟨k',rfl⟩ := hhi
 rcases hlo with ⟨rfl,rfl⟩ | ⟨k,rfl⟩ <;>
  simp [Instr.sliceBounds,Instr.sliceBound,asIntOf,h1,h2,h3]

theorem give_sl3 (h:Sim m w0 S0 Jo D Φ S st a w) {γ:Opd→V} (hγ:∀ x,VRel Φ S w (γ (cO x)) (a.eval x)) {t e:TypeId} {k:Nat} (hu:P.underlying t = some (.slice e)) (hk:sz? P e = some k) {x:Value} {lo hi:Option Operand} {mx:Operand} {k' : Nat} {es:List (List Pv)} {full:Bool} {l hh mm:Int}
  (hx:VRel Φ S w (.p (.sl k' es full)) x) (hl:bound γ 0 (lo.map cO) = some l) (hhh:bound γ (-1) (hi.map cO) = some hh) (hmm:bound γ 0 (some (cO mx)) = some mm) (h0:0≤l) (h1:l≤hh) (h2:hh≤mm) (h3:mm≤es.length) (hkk:k' = k ∨ es.length = 0) :
  Gives P m w0 S0 Jo D st a w (Instr.sliceAt t x (lo.map a.eval) (hi.map a.eval) (some (a.eval mx))) (.p (.sl k' ((es.drop l.toNat).take (hh.toNat - l.toNat)) (decide (mm = hh)))) st.hp := by
 have hlo' : ((lo.map a.eval) = none∧l.toNat = 0) ∨ ∃ k,(lo.map a.eval) = some (.int k (l.toNat:Int)) := by
  rcases bound_rel hγ hl with ⟨rfl,rfl⟩ | ⟨o,kk,rfl,he⟩
  ·exact .inl ⟨rfl,rfl⟩
  ·exact .inr ⟨kk,by simp [he,Int.toNat_of_nonneg h0]⟩
 have hhi' : ∃ k,(hi.map a.eval) = some (.int k (hh.toNat:Int)) := by
  rcases bound_rel hγ hhh with ⟨rfl,rfl⟩ | ⟨o,kk,rfl,he⟩
  ·omega
  ·exact ⟨kk,by simp [he,Int.toNat_of_nonneg (show 0≤hh by omega)]⟩
 have hmm' : ∃ k,a.eval mx = .int k (mm.toNat:Int) := by
  have h4:bound γ 0 ((some mx).map cO) = some mm := hmm
  rcases bound_rel hγ h4 with ⟨e,_⟩ | ⟨o,kk,e,he⟩
  ·cases e
  ·injection e with e; subst e
   exact ⟨kk,by simp [he,Int.toNat_of_nonneg (show 0≤mm by omega)]⟩
 obtain ⟨base,cap,rfl,hc,_⟩ := sl_len hx
 -- the slice with its end set
 have hx2:∃ base2,VRel Φ S w (.p (.sl k' ((es.drop l.toNat).take (hh.toNat - l.toNat)) (decide (mm = hh)))) (.slice base2 (hh.toNat - l.toNat) (mm.toNat - l.toNat))∧base2 = (if mm.toNat = l.toNat then base else base.map (·.add (l.toNat * k))) := by
  refine ⟨_,?_,rfl⟩
  have hlen:((es.drop l.toNat).take (hh.toNat - l.toNat)).length = hh.toNat - l.toNat := by simp; omega
  rcases Nat.eq_zero_or_pos (hh.toNat - l.toNat) with h0 | h0
  ·have hnil:(es.drop l.toNat).take (hh.toNat - l.toNat) = [] := List.eq_nil_of_length_eq_zero (by omega)
   rw [hnil,h0]
   cases hbase:(if mm.toNat = l.toNat then base else base.map (·.add (l.toNat * k))) with
   | some ad => exact .p _ _ (.sl0 _ _ _ _ (fun e => by simp at e; omega))
   | none =>
    have hb:base = none := by
     split at hbase
     ·exact hbase
     ·cases base with
      | none => rfl
      | some _ => simp at hbase
    subst hb
    cases hx with
    | p _ _ hp => cases hp with
     | slnil =>
      simp at h3
      have:mm.toNat - l.toNat = 0 := by omega
      rw [this]; exact .p _ _ (.slnil _ _)
  ·cases hx with
   | p _ _ hp =>
    cases hp with
    | slnil => simp at h3; omega
    | sl0 => simp at h3; omega
    | sl _ _ _ b o n cap cell hS hn h0' hc' hf' hkl g1 g2 =>
     have hkeq:k' = k := by rcases hkk with e | e; exact e; omega
     subst hkeq
     rw [if_neg (by omega)]
     simp only [Option.map_some,addr_add]
     have hget:∀ (i:Nat) (e:List Pv),((es.drop l.toNat).take (hh.toNat - l.toNat))[i]? = some e→es[l.toNat + i]? = some e := by
      intro i e he
      rw [List.getElem?_take] at he
      split at he
      ·rwa [List.getElem?_drop] at he
      ·cases he
     refine .p _ _ (.sl k' _ _ b _ _ _ (fun i j => cell (l.toNat + i) j) hS hlen h0 (by omega) (fun e => by simp at e; omega) (fun e he => hkl e (List.mem_of_mem_drop (List.mem_of_mem_take he))) ?_ ?_)
     ·intro i j e x he hx
      have := g1 (l.toNat + i) j e x (hget i e he) hx
      rw [Nat.add_mul] at this
      rw [← this]; congr 2; omega
     ·intro i j e x he hx
      exact g2 (l.toNat + i) j e x (hget i e he) hx
 obtain ⟨base2,hv,rfl⟩ := hx2
 refine gives_same h ?_ hv
 simp only [Instr.sliceAt,Instr.slice,Sem.run_bind,run_underlying hu,Result.andThen_ok,run_sliceBounds3 es.length cap _ _ _ l.toNat hh.toNat mm.toNat hlo' hhi' hmm' (by omega) (by omega) (by omega),sz_run hk]
 rfl
end
end Go.Mx
namespace Go.Mx
variable [Laid]
open Go.RowKit

section
variable {P:Program} {m:Nat} {w0:World} {S0 Jo:Nat→Prop} {D:Bs} {Φ:Plc} {S:Nat→Prop} {st:St} {a:Act} {w:World}

omit [Laid] in
theorem set_get {l:List Blk} {t:Nat} {x:Blk} {t' : Nat} {b' : Blk} (e:(l.set t x)[t']? = some b'):(t' = t∧b' = x) ∨ (t' ≠ t∧l[t']? = some b') := by
 rw [List.getElem?_set] at e
 by_cases e' : t = t'
 ·subst e'
  rw [if_pos rfl] at e
  split at e
  ·left; exact ⟨rfl,by simpa using e.symm⟩
  ·cases e
 ·rw [if_neg e'] at e; exact .inr ⟨fun x => e' x.symm,e⟩

theorem Sim.bump (h:Sim m w0 S0 Jo D Φ S st a w) {t:Nat} {b:Blk} (hb:st.hp[t]? = some b) {p:Pl} (hp:(b.st = .live∧Φ t b.ver = some p) ∨ p = .virgin) {cs:List V} (hcs:(p = .virgin∧cs = []) ∨ (cs = b.cs∧b.st = .live∧Φ t b.ver = some p)) :
  ∃ Φ',(∀ t k p,Φ t k = some p→Φ' t k = some p)∧Φ' t (b.ver + 1) = some p∧Sim m w0 S0 Jo D Φ' S { st with hp := st.hp.set t ⟨b.ver + 1,.live,cs⟩ } a w := by
 let Φ' : Plc := fun t' k => if t' = t∧k = b.ver + 1 then some p else Φ t' k
 have hΦ:∀ t k p,Φ t k = some p→Φ' t k = some p := by
  intro t' k p hp
  simp only [Φ']
  split
  ·rename_i e; obtain ⟨rfl,rfl⟩ := e
   rw [h.fresh _ b _ hb (Nat.lt_succ_self _)] at hp; cases hp
  ·exact hp
 have hΦt:Φ' t (b.ver + 1) = some p := by simp [Φ']
 have hne:∀ t' k,t' ≠ t→Φ' t' k = Φ t' k := fun t' k e => by simp [Φ',e]
 have up:∀ x v,VRel Φ S w x v→VRel Φ' S w x v := fun x v hv => hv.mono hΦ (fun _ e => e) (fun _ _ => rfl)
 refine ⟨Φ',hΦ,hΦt,⟨h.defers,h.same,h.size,fun t v hv => up _ _ (h.ts t v hv),?_,?_,?_,h.Slt,h.Sold,h.Snew,h.frame,fun t' hm => hΦ _ _ _ (h.io t' hm),h.glob⟩⟩
 ·intro t' b' hb'
  rcases set_get hb' with ⟨rfl,rfl⟩ | ⟨hne',hb'⟩
  ·unfold BRel
   rcases hcs with ⟨rfl,rfl⟩ | ⟨rfl,hl,hpp⟩
   ·exact .inl ⟨hΦt,rfl⟩
   ·have hB := h.hp t' b hb
    unfold BRel at hB
    rw [hl] at hB
    rcases hB with ⟨hB,hB2⟩ | ⟨c,sz,arr',ty',k1,k2,k3,k4,k5,k6,k7⟩
    ·rw [hB] at hpp; injection hpp with hpp; subst hpp
     exact .inl ⟨hΦt,hB2⟩
    ·rw [k1] at hpp; injection hpp with hpp; subst hpp
     exact .inr ⟨c,sz,arr',ty',hΦt,k2,k3,k4,fun i x hx => up _ _ (k5 i x hx),k6,k7⟩
  ·have hB := h.hp t' b' hb'
   unfold BRel at hB ⊢
   split at hB
   ·trivial
   ·rcases hB with hB | ⟨c,sz,arr',ty',k1,k2,k3,k4,k5,k6,k7⟩
    ·exact .inl ⟨by rw [hne _ _ hne']; exact hB.1,hB.2⟩
    ·exact .inr ⟨c,sz,arr',ty',by rw [hne _ _ hne']; exact k1,k2,k3,k4,fun i x hx => up _ _ (k5 i x hx),k6,k7⟩
   ·rcases hB with hB | ⟨c,sz,k1,k2,arr',ty',fz,k3,k4,k5⟩
    ·exact .inl ⟨by rw [hne _ _ hne']; exact hB.1,hB.2⟩
    ·exact .inr ⟨c,sz,by rw [hne _ _ hne']; exact k1,k2,arr',ty',fz,k3,k4,fun i x hx => up _ _ (k5 i x hx)⟩
 ·intro t' b' ver hb' hv
  rcases set_get hb' with ⟨rfl,rfl⟩ | ⟨hne',hb'⟩
  ·simp only [Φ']
   dsimp only at hv
   rw [if_neg (by omega)]
   exact h.fresh _ b _ hb (by omega)
  ·rw [hne _ _ hne']; exact h.fresh _ b' _ hb' hv
 ·intro t1 t2 b1 b2 c1 s1 c2 s2 g1 g2 l1 l2 p1 p2 hne12
  have blk:∀ c sz,p = .blk c sz→b.st = .live∧Φ t b.ver = some (.blk c sz) := by
   intro c sz e
   rcases hp with ⟨hl,hp⟩ | hp
   ·exact ⟨hl,by rw [hp,e]⟩
   ·rw [hp] at e; cases e
  rcases set_get g1 with ⟨e1,rfl⟩ | ⟨n1,k1⟩
  ·rcases set_get g2 with ⟨e2,rfl⟩ | ⟨n2,k2⟩
   ·exact absurd (e1.trans e2.symm) hne12
   ·subst e1
    rw [hΦt] at p1; injection p1 with p1
    rw [hne _ _ n2] at p2
    obtain ⟨q1,q2⟩ := blk _ _ p1
    exact h.inj _ _ _ _ _ _ _ _ hb k2 q1 l2 q2 p2 hne12
  ·rw [hne _ _ n1] at p1
   rcases set_get g2 with ⟨e2,rfl⟩ | ⟨n2,k2⟩
   ·subst e2
    rw [hΦt] at p2; injection p2 with p2
    obtain ⟨q1,q2⟩ := blk _ _ p2
    exact h.inj _ _ _ _ _ _ _ _ k1 hb l1 q1 p1 q2 hne12
   ·rw [hne _ _ n2] at p2
    exact h.inj _ _ _ _ _ _ _ _ k1 k2 l1 l2 p1 p2 hne12

theorem Sim.adopt (h:Sim m w0 S0 Jo D Φ S st a w) {t:Nat} {b:Blk} (hb:st.hp[t]? = some b) {c sz:Nat} {arr:Array Value} {ty:TypeId} (hh:w.heap[c]? = some (.cells arr ty (0,0))) (hs:arr.size = sz) {cs:List V} (hn:cs.length≤sz)
  (hc:∀ i x,cs[i]? = some x→VRel Φ S w x (arr.getD i undef)) (hS:¬ S c) (hw0:w0.heap.size≤c) (hfresh:∀ t b c' sz',st.hp[t]? = some b→b.st = .live→Φ t b.ver = some (.blk c' sz')→c' ≠ c) :
  ∃ Φ',(∀ t k p,Φ t k = some p→Φ' t k = some p)∧Φ' t (b.ver + 1) = some (.blk c sz)∧Sim m w0 S0 Jo D Φ' S { st with hp := st.hp.set t ⟨b.ver + 1,.live,cs⟩ } a w := by
 let Φ' : Plc := fun t' k => if t' = t∧k = b.ver + 1 then some (.blk c sz) else Φ t' k
 have hΦ:∀ t k p,Φ t k = some p→Φ' t k = some p := by
  intro t' k p hp
  simp only [Φ']
  split
  ·rename_i e; obtain ⟨rfl,rfl⟩ := e
   rw [h.fresh _ b _ hb (Nat.lt_succ_self _)] at hp; cases hp
  ·exact hp
 have hΦt:Φ' t (b.ver + 1) = some (.blk c sz) := by simp [Φ']
 have hne:∀ t' k,t' ≠ t→Φ' t' k = Φ t' k := fun t' k e => by simp [Φ',e]
 have up:∀ x v,VRel Φ S w x v→VRel Φ' S w x v := fun x v hv => hv.mono hΦ (fun _ e => e) (fun _ _ => rfl)
 refine ⟨Φ',hΦ,hΦt,⟨h.defers,h.same,h.size,fun t v hv => up _ _ (h.ts t v hv),?_,?_,?_,h.Slt,h.Sold,h.Snew,h.frame,fun t' hm => hΦ _ _ _ (h.io t' hm),h.glob⟩⟩
 ·intro t' b' hb'
  rcases set_get hb' with ⟨rfl,rfl⟩ | ⟨hne',hb'⟩
  ·unfold BRel
   exact .inr ⟨c,sz,arr,ty,hΦt,hh,hs,hn,fun i x hx => up _ _ (hc i x hx),hS,.inr hw0⟩
  ·have hB := h.hp t' b' hb'
   unfold BRel at hB ⊢
   split at hB
   ·trivial
   ·rcases hB with hB | ⟨c,sz,arr',ty',k1,k2,k3,k4,k5,k6,k7⟩
    ·exact .inl ⟨by rw [hne _ _ hne']; exact hB.1,hB.2⟩
    ·exact .inr ⟨c,sz,arr',ty',by rw [hne _ _ hne']; exact k1,k2,k3,k4,fun i x hx => up _ _ (k5 i x hx),k6,k7⟩
   ·rcases hB with hB | ⟨c,sz,k1,k2,arr',ty',fz,k3,k4,k5⟩
    ·exact .inl ⟨by rw [hne _ _ hne']; exact hB.1,hB.2⟩
    ·exact .inr ⟨c,sz,by rw [hne _ _ hne']; exact k1,k2,arr',ty',fz,k3,k4,fun i x hx => up _ _ (k5 i x hx)⟩
 ·intro t' b' ver hb' hv
  rcases set_get hb' with ⟨rfl,rfl⟩ | ⟨hne',hb'⟩
  ·simp only [Φ']
   dsimp only at hv
   rw [if_neg (by omega)]
   exact h.fresh _ b _ hb (by omega)
  ·rw [hne _ _ hne']; exact h.fresh _ b' _ hb' hv
 ·intro t1 t2 b1 b2 c1 s1 c2 s2 g1 g2 l1 l2 p1 p2 hne12
  rcases set_get g1 with ⟨e1,rfl⟩ | ⟨n1,k1⟩
  ·rcases set_get g2 with ⟨e2,rfl⟩ | ⟨n2,k2⟩
   ·exact absurd (e1.trans e2.symm) hne12
   ·subst e1
    rw [hΦt] at p1; injection p1 with p1; injection p1 with p1 _
    rw [hne _ _ n2] at p2
    have := hfresh _ _ _ _ k2 l2 p2
    omega
  ·rw [hne _ _ n1] at p1
   rcases set_get g2 with ⟨e2,rfl⟩ | ⟨n2,k2⟩
   ·subst e2
    rw [hΦt] at p2; injection p2 with p2; injection p2 with p2 _
    have := hfresh _ _ _ _ k1 l1 p1
    omega
   ·rw [hne _ _ n2] at p2
    exact h.inj _ _ _ _ _ _ _ _ k1 k2 l1 l2 p1 p2 hne12

theorem give_mk (h:Sim m w0 S0 Jo D Φ S st a w) {t e:TypeId} {i:TypeInfo} {z:List V} (hu:P.underlying t = some (.slice e)) (hi:P.info? e = some i) (hz:zero? P e = some z) (h0:0 < i.size) (hzl:z.length = i.size)
  {s:Nat} {b:Blk} (hb:st.hp[s]? = some b) {x:Value} {n:Int} (hx:x = .int .i64 n) (hn:0≤n) (hby:i.bytes * n≤281474976710656) (h63:n≤9223372036854775807) :
  Gives P m w0 S0 Jo D st a w (Instr.makeSlice t x x) (.ref s (b.ver + 1) 0 n.toNat i.size) (st.hp.set s ⟨b.ver + 1,.live,(List.replicate n.toNat z).flatten⟩) := by
 subst hx
 obtain ⟨i',u,hi',hu',rfl,hrun⟩ := zero_run hz
 rw [hi] at hi'; injection hi' with hi'; subst hi'
 have hus:u.cells.size = i.size := by simpa using hzl
 have hc:Cells Φ S w (List.replicate n.toNat (u.cells.toList.map constC)).flatten (madeCells u.cells (n.toNat * i.size)) := by
  have hh := cells_const (Φ := Φ) (S := S) (w := w) (madeCells u.cells (n.toNat * i.size))
  unfold madeCells at hh ⊢
  rw [range_zero hus h0] at hh
  rw [List.map_flatten,List.map_replicate] at hh; exact hh
 obtain ⟨Φ',_,h2,h3⟩ := h.new (ty := e) hb (cells_le hc) hc.2
 refine ⟨_,_,Φ',S,run_make w t e i u hu hi hu' .i64 .i64 n n hn (Int.le_refl _) hby h63,h3,?_⟩
 refine .ref _ _ _ _ _ _ _ _ h2 (Nat.le_refl _) ?_
 rw [hc.1]; simp [hus]

theorem app_grow (h:Sim m w0 S0 Jo D Φ S st a w) {t ty e:TypeId} {i:TypeInfo} {z:Value} (hu:P.underlying t = some (.slice e)) (hi:P.info? e = some i) (hz:i.zero = some z) (hb0:0 < i.bytes) (hzl:z.cells.size = i.size)
  {s:Nat} {b:Blk} (hb:st.hp[s]? = some b) {base:Option Addr} {n cap:Nat} {cs:List V} {olds:List Value} (hol:olds.length = n * i.size) (hcl:cs.length = n * i.size)
  (hold:0 < n→∃ c o,base = some ⟨c,o,none⟩∧∀ j u,olds[j]? = some u→w.cell? ((⟨c,o,none⟩ : Addr).add j) = some u) (hbase:base = none→cap = 0)
  (hcs:∀ j x,cs[j]? = some x→VRel Φ S w x (olds.getD j undef)) {v:V} {x:Value} (hv:VRel Φ S w v x) {es:List (List Pv)} (hs:sliceP st.hp i.size v = some es)
  (hg:cap < n + es.length) (hn:n≤cap) (hby:(n + es.length) * i.bytes≤140737488355328) :
  Gives P m w0 S0 Jo D st a w (Builtin.append_ #[t,t] ty #[.slice base n cap,x]) (.ref s (b.ver + 1) 0 (n + es.length) i.size) (st.hp.set s ⟨b.ver + 1,.live,cs ++ es.flatten.map .p⟩) := by
 obtain ⟨base2,cap2,rfl,hle2,hfl,hsrc⟩ := sliceP_rel h hv hs
 have hpos:0 < es.length := by omega
 obtain ⟨c2,o2,news,rfl,hnl,hnew,hnr⟩ := hsrc hpos
 have h63:n + es.length≤140737488355328 := Nat.le_trans (Nat.le_mul_of_pos_right _ hb0) hby
 have hfit := growslice_fits hg hby
 have hgen:∃ (nc:Nat) (arr:Array Value),n + es.length≤nc∧arr.size = nc * i.size∧(∀ j,j < n * i.size→arr.getD j undef = olds.getD j undef)∧(∀ j,j < es.length * i.size→arr.getD (n * i.size + j) undef = news.getD j undef) ∧
   ((Builtin.append_ #[t,t] ty #[.slice base n cap,.slice (some ⟨c2,o2,none⟩) es.length cap2]).run P w = .ok (.slice (some ⟨w.heap.size,0,none⟩) (n + es.length) nc) (w.drew.alloc (.cells arr e))) := by
  have hzs:∀ q,(Builtin.zeroCells z.cells q).size = q * i.size := by intro q; simp [Builtin.zeroCells,hzl]
  have hge:∀ q,n + es.length≤grownCap w (n + es.length) q e := fun q => by simp only [grownCap,Question.cut]; omega
  have harr:∀ (olds:List Value),olds.length = n * i.size→∀ nc,n + es.length≤nc→(olds.toArray ++ news.toArray ++ Builtin.zeroCells z.cells (nc - (n + es.length))).size = nc * i.size ∧
    (∀ j,j < n * i.size→(olds.toArray ++ news.toArray ++ Builtin.zeroCells z.cells (nc - (n + es.length))).getD j undef = olds.getD j undef) ∧
    (∀ j,j < es.length * i.size→(olds.toArray ++ news.toArray ++ Builtin.zeroCells z.cells (nc - (n + es.length))).getD (n * i.size + j) undef = news.getD j undef) := by
   intro olds hol nc hnc
   refine ⟨?_,?_,?_⟩
   ·simp only [Array.size_append,List.size_toArray,hol,hnl,hzs,Nat.sub_mul,Nat.add_mul]
    have:(n + es.length) * i.size≤nc * i.size := Nat.mul_le_mul_right _ hnc
    rw [Nat.add_mul] at this
    omega
   ·intro j hj
    rw [getD_of_list,List.getD]
    simp only [Array.toList_append]
    rw [List.getElem?_append_left (by simp; omega),List.getElem?_append_left (by omega)]
   ·intro j hj
    rw [getD_of_list,List.getD]
    simp only [Array.toList_append]
    rw [List.getElem?_append_left (by simp; omega),List.getElem?_append_right (by omega),hol]
    congr 2; omega
  cases base with
  | none =>
   have hc0 := hbase rfl
   have hn0:n = 0 := by omega
   subst hn0 hc0
   have ho:olds = [] := List.eq_nil_of_length_eq_zero (by simpa using hol)
   subst ho
   have hr := run_append_nil (P := P) w t ty e i z hu hi hz ⟨c2,o2,none⟩ es.length cap2 news hnl hnew hpos (by omega) (by rw [Nat.zero_add] at hby; omega)
   have hh := harr [] (by simp) (grownCap w es.length 0 e) (by simpa using hge 0)
   simp only [Nat.zero_add,Array.empty_append] at hh ⊢
   refine ⟨_,_,by simpa using hge 0,hh.1,hh.2.1,hh.2.2,?_⟩
   simpa using hr
  | some ad =>
   have hr := run_append_grow (P := P) w t ty e i z hu hi hz ad n cap olds hol (by
    intro j v hj
    rcases Nat.eq_zero_or_pos n with h0 | h0
    ·have:olds = [] := List.eq_nil_of_length_eq_zero (by rw [hol,h0]; simp)
     rw [this] at hj; simp at hj
    ·obtain ⟨c,o,he,hh⟩ := hold h0
     injection he with he
     rw [he]; exact hh j v hj) ⟨c2,o2,none⟩ es.length cap2 news hnl hnew hg (by omega) hfit
   have hh := harr olds hol (grownCap w (n + es.length) cap e) (hge cap)
   exact ⟨_,_,hge cap,hh.1,hh.2.1,hh.2.2,hr⟩
 obtain ⟨nc,arr,hnc,harr,g1,g2,hrun⟩ := hgen
 have h1:Sim m w0 S0 Jo D Φ S st a w.drew := h.drew _
 have hlen:(cs ++ es.flatten.map V.p).length = (n + es.length) * i.size := by
  rw [List.length_append,List.length_map,hcl,hfl,← Nat.add_mul]
 have hcs' : ∀ j x,(cs ++ es.flatten.map V.p)[j]? = some x→VRel Φ S w.drew x (arr.getD j undef) := by
  intro j x hx
  rw [List.getElem?_append] at hx
  split at hx
  ·rename_i hlt
   rw [g1 j (by omega)]
   exact (hcs j x hx).mono (fun _ _ _ e => e) (fun _ e => e) (fun _ _ => rfl)
  ·rename_i hlt
   rw [List.getElem?_map] at hx
   cases hf:es.flatten[j - cs.length]? with
   | none => simp [hf] at hx
   | some p =>
    simp only [hf,Option.map_some,sJ] at hx
    subst hx
    have hlt2 := (List.getElem?_eq_some_iff.1 hf).1
    have := hnr _ p hf
    have e2 := g2 (j - cs.length) (by rw [← hfl]; exact hlt2)
    rw [show n * i.size + (j - cs.length) = j by omega] at e2
    rw [e2]
    exact .p _ _ (this.mono (fun _ e => e) (fun _ _ => rfl))
 obtain ⟨Φ',_,k2,k3⟩ := h1.new (ty := e) (arr := arr) hb (by rw [hlen,harr]; exact Nat.mul_le_mul_right _ hnc) hcs'
 exact ⟨_,_,Φ',S,hrun,k3,.ref _ _ _ _ _ _ _ _ k2 hnc (by rw [harr]; omega)⟩
end
end Go.Mx
namespace Go.Mx
variable [Laid]
open Go.RowKit

section
variable {P:Program} {m:Nat} {w0:World} {S0 Jo:Nat→Prop} {D:Bs} {Φ:Plc} {S:Nat→Prop} {st:St} {a:Act} {w:World}

omit [Laid] in
theorem app_nothing {t ty e:TypeId} {i:TypeInfo} (hu:P.underlying t = some (.slice e)) (hi:P.info? e = some i) (base base2:Option Addr) (n cap cap2:Nat) (hn:n≤cap) (w:World) :
  (Builtin.append_ #[t,t] ty #[.slice base n cap,.slice base2 0 cap2]).run P w = .ok (.slice base n cap) w := by
 cases base <;> cases base2 <;>
  simp [Builtin.append_,run_underlying hu,sizeOf,typeInfo,hi,Builtin.lenOf,Builtin.firstCells,hn,storeCells,loadCells,loadCellsFrom]

theorem give_app_lit (h:Sim m w0 S0 Jo D Φ S st a w) {t ty e:TypeId} {i:TypeInfo} {z:Value} (hu:P.underlying t = some (.slice e)) (hi:P.info? e = some i) (hz:i.zero = some z) (hb0:0 < i.bytes) (hzl:z.cells.size = i.size)
  {s:Nat} {b:Blk} (hb:st.hp[s]? = some b) {k:Nat} {x y:Value} (hx:VRel Φ S w (.p (.sl k [] true)) x) {v:V} (hv:VRel Φ S w v y) {es:List (List Pv)} (hs:sliceP st.hp i.size v = some es)
  (hby:es.length * i.bytes≤140737488355328) :
  Gives P m w0 S0 Jo D st a w (Builtin.append_ #[t,t] ty #[x,y]) (.ref s (b.ver + 1) 0 es.length i.size) (st.hp.set s ⟨b.ver + 1,.live,es.flatten.map .p⟩) := by
 obtain ⟨base,cap,rfl,_,hcap⟩ := sl_len hx
 have hc0:cap = 0 := by simpa using hcap rfl
 subst hc0
 rcases Nat.eq_zero_or_pos es.length with h0 | h0
 ·have he:es = [] := List.eq_nil_of_length_eq_zero h0
  subst he
  obtain ⟨base2,cap2,rfl,_,_,_⟩ := sliceP_rel h hv hs
  obtain ⟨Φ',_,h2,h3⟩ := h.bump (p := .virgin) (cs := []) hb (.inr rfl) (.inl ⟨rfl,rfl⟩)
  exact ⟨_,_,Φ',S,app_nothing hu hi base base2 0 0 cap2 (Nat.le_refl _) w,h3,.refv _ _ _ _ h2⟩
 ·have := app_grow (ty := ty) h hu hi hz hb0 hzl hb (base := base) (n := 0) (cap := 0) (cs := []) (olds := []) (by simp) (by simp) (by omega) (fun _ => rfl) (by simp) hv hs (by omega) (Nat.le_refl _) (by rw [Nat.zero_add]; exact hby)
  simpa using this

theorem give_app_ref (h:Sim m w0 S0 Jo D Φ S st a w) {t ty e:TypeId} {i:TypeInfo} {z:Value} (hu:P.underlying t = some (.slice e)) (hi:P.info? e = some i) (hz:i.zero = some z) (hb0:0 < i.bytes) (hzl:z.cells.size = i.size)
  {s:Nat} {b:Blk} (hb:st.hp[s]? = some b) (hl:b.st.isLive = true) {n:Nat} {x y:Value} (hx:VRel Φ S w (.ref s b.ver 0 n i.size) x) (hcl:b.cs.length = n * i.size) {v:V} (hv:VRel Φ S w v y) {es:List (List Pv)} (hs:sliceP st.hp i.size v = some es)
  (hby:(n + es.length) * i.bytes≤140737488355328) :
  Gives P m w0 S0 Jo D st a w (Builtin.append_ #[t,t] ty #[x,y]) (.ref s (b.ver + 1) 0 (n + es.length) i.size) (st.hp.set s ⟨b.ver + 1,.live,b.cs ++ es.flatten.map .p⟩) := by
 have hl' : b.st = .live := by cases hbs:b.st <;> simp_all [BSt.isLive]
 cases hx with
 | refv _ _ _ ad hΦ =>
  have hcs:b.cs = [] := List.eq_nil_of_length_eq_zero (by simpa using hcl)
  rcases Nat.eq_zero_or_pos es.length with h0 | h0
  ·have he:es = [] := List.eq_nil_of_length_eq_zero h0
   subst he
   obtain ⟨base2,cap2,rfl,_,_,_⟩ := sliceP_rel h hv hs
   obtain ⟨Φ',_,h2,h3⟩ := h.bump (p := .virgin) (cs := []) hb (.inr rfl) (.inl ⟨rfl,rfl⟩)
   rw [hcs]
   exact ⟨_,_,Φ',S,app_nothing hu hi ad base2 0 0 cap2 (Nat.le_refl _) w,h3,.refv _ _ _ _ h2⟩
  ·have := app_grow (ty := ty) h hu hi hz hb0 hzl hb (base := ad) (n := 0) (cap := 0) (cs := []) (olds := []) (by simp) (by simp) (by omega) (fun _ => rfl) (by simp) hv hs (by omega) (Nat.le_refl _) hby
   rw [hcs]; exact this
 | ref _ _ _ _ _ c sz cap hΦ hn hcap =>
  obtain ⟨arr,ty',k1,k2,k3,k4,k5,k6⟩ := live_of h hb hl' hΦ
  by_cases hfit:n + es.length≤cap
  ·obtain ⟨base2,cap2,rfl,hle2,hfl,hsrc⟩ := sliceP_rel h hv hs
   rcases Nat.eq_zero_or_pos es.length with h0 | h0
   ·have he:es = [] := List.eq_nil_of_length_eq_zero h0
    subst he
    obtain ⟨Φ',_,h2,h3⟩ := h.bump (p := .blk c sz) (cs := b.cs) hb (.inl ⟨hl',hΦ⟩) (.inr ⟨rfl,hl',hΦ⟩)
    refine ⟨_,_,Φ',S,app_nothing hu hi _ base2 n cap cap2 hn w,by simpa using h3,.ref _ _ _ _ _ _ _ _ h2 hn hcap⟩
   ·obtain ⟨c2,o2,news,rfl,hnl,hnew,hnr⟩ := hsrc h0
    have hone:∀ u∈news,u.oneCell' = true := by
     intro u hu'
     obtain ⟨j,hj⟩ := List.getElem?_of_mem hu'
     have hlt := (List.getElem?_eq_some_iff.1 hj).1
     have hp := hnr j (es.flatten[j]'(by omega)) (List.getElem?_eq_getElem _)
     have:news.getD j undef = u := by simp [List.getD,hj]
     rw [this] at hp; exact hp.cellOne
    have hle:n * i.size + news.length≤arr.size := by
     rw [hnl,k2,← Nat.add_mul]
     exact Nat.le_trans (Nat.mul_le_mul_right _ hfit) (by omega)
    obtain ⟨w',arr',hrun,ho,hh,hs',hg⟩ := run_storeCells P (c := c) (o := n * i.size) (ty := ty') news 0 w arr k1 hone (by simpa using hle)
    have hlen:(b.cs ++ es.flatten.map V.p).length = (n + es.length) * i.size := by
     rw [List.length_append,List.length_map,hcl,hfl,← Nat.add_mul]
    have h1 := h.turn hb hl' hΦ ho hh (hs'.trans k2) (cs' := b.cs ++ es.flatten.map V.p) (by
     rw [hlen]; exact Nat.le_trans (Nat.mul_le_mul_right _ hfit) (by omega)) (by
     intro j x hx
     rw [hg j]
     rw [List.getElem?_append] at hx
     split at hx
     ·rename_i hlt
      rw [if_neg (by omega)]
      exact k4 j x hx
     ·rename_i hlt
      rw [List.getElem?_map] at hx
      cases hf:es.flatten[j - b.cs.length]? with
      | none => simp [hf] at hx
      | some p =>
       simp only [hf,Option.map_some,sJ] at hx
       subst hx
       have hlt2 := (List.getElem?_eq_some_iff.1 hf).1
       rw [if_pos (by omega)]
       have := hnr _ p hf
       rw [show j - (n * i.size + 0) = j - b.cs.length by omega]
       exact .p _ _ this)
    have hslt:s < st.hp.length := (List.getElem?_eq_some_iff.1 hb).1
    obtain ⟨Φ',_,h2,h3⟩ := h1.bump (t := s) (b := ⟨b.ver,.live,b.cs ++ es.flatten.map V.p⟩) (p := .blk c sz) (cs := b.cs ++ es.flatten.map V.p) (by simp [hslt]) (.inl ⟨rfl,hΦ⟩) (.inr ⟨rfl,rfl,hΦ⟩)
    refine ⟨.slice (some ⟨c,0,none⟩) (n + es.length) cap,w',Φ',S,?_,by simpa using h3,.ref _ _ _ _ _ _ _ _ h2 hfit hcap⟩
    have hf := run_firstCells_some (P := P) w i.size es.length ⟨c2,o2,none⟩ es.length cap2 news hnl hnew
    have hadd:(⟨c,0,none⟩ : Addr).add (n * i.size) = ⟨c,n * i.size,none⟩ := by rw [addr_add]; simp
    simp [Builtin.append_,run_underlying hu,sizeOf,typeInfo,hi,Builtin.lenOf,hfit,hf,hadd,hrun]
  ·exact app_grow h hu hi hz hb0 hzl hb (base := some ⟨c,0,none⟩) (n := n) (cap := cap) (cs := b.cs) (olds := (List.range (n * i.size)).map (fun j => arr.getD j undef)) (by simp) hcl
    (fun _ => ⟨c,0,rfl,fun j u hj => by
     rw [List.getElem?_map] at hj
     by_cases hlt:j < n * i.size
     ·rw [List.getElem?_range hlt] at hj
      simp only [Option.map_some,sJ] at hj
      rw [addr_add,Nat.zero_add,← hj]
      exact cell_getD k1 (by omega)
     ·rw [List.getElem?_eq_none (by simpa using hlt)] at hj; simp at hj⟩)
    (fun e => by cases e) (fun j x hx => by
     have hlt:j < n * i.size := by rw [← hcl]; exact (List.getElem?_eq_some_iff.1 hx).1
     rw [List.getD,List.getElem?_map,List.getElem?_range hlt]
     exact k4 j x hx) hv hs (by omega) hn hby

theorem give_app_full (h:Sim m w0 S0 Jo D Φ S st a w) {t ty e:TypeId} {i:TypeInfo} {z:Value} (hu:P.underlying t = some (.slice e)) (hi:P.info? e = some i) (hz:i.zero = some z) (hb0:0 < i.bytes) (hzl:z.cells.size = i.size)
  {s:Nat} {b:Blk} (hb:st.hp[s]? = some b) {x y:Value} {e0:List Pv} {es0:List (List Pv)} (hx:VRel Φ S w (.p (.sl i.size (e0 :: es0) true)) x) {v:V} (hv:VRel Φ S w v y) {es:List (List Pv)} (hs:sliceP st.hp i.size v = some es) (h0:0 < es.length)
  (hby:(es0.length + 1 + es.length) * i.bytes≤140737488355328) :
  Gives P m w0 S0 Jo D st a w (Builtin.append_ #[t,t] ty #[x,y]) (.ref s (b.ver + 1) 0 (es0.length + 1 + es.length) i.size) (st.hp.set s ⟨b.ver + 1,.live,((e0 :: es0) ++ es).flatten.map .p⟩) := by
 obtain ⟨base',cap',he,_,hcap⟩ := sl_len hx
 obtain ⟨base,cap,he2,hle,hfl,hsrc⟩ := sliceP_rel h hx (es := e0 :: es0) (k := i.size) (by simp [sliceP])
 have hcc:cap = es0.length + 1 := by
  rw [he] at he2; injection he2 with _ _ e3
  rw [← e3,hcap rfl]; simp
 subst he2
 subst hcc
 obtain ⟨c,o,olds,rfl,hnl,hnew,hnr⟩ := hsrc (by simp)
 have hfl' : ((e0 :: es0).flatten).length = (es0.length + 1) * i.size := by rw [hfl]; simp
 have hnl' : olds.length = (es0.length + 1) * i.size := by rw [hnl]; simp
 have := app_grow (ty := ty) h hu hi hz hb0 hzl hb (base := some ⟨c,o,none⟩) (n := es0.length + 1) (cap := es0.length + 1) (cs := (e0 :: es0).flatten.map V.p) (olds := olds) hnl' (by rw [List.length_map]; exact hfl')
  (fun _ => ⟨c,o,rfl,hnew⟩) (fun e => by cases e) (fun j x hj => by
   rw [List.getElem?_map] at hj
   cases hf:((e0 :: es0).flatten)[j]? with
   | none => rw [hf] at hj; cases hj
   | some p =>
    simp only [hf,Option.map_some,sJ] at hj
    subst hj
    exact .p _ _ (hnr j p hf)) hv hs (by omega) (Nat.le_refl _) hby
 simpa only [List.flatten_append,List.map_append,List.length_cons] using this

omit [Laid] in
theorem flat_takeL {k:Nat}:∀ (es:List (List Pv)) (n:Nat),(∀ e∈es,e.length = k)→(es.take n).flatten = es.flatten.take (n * k)
 | [],n,_ => by simp
 | e :: es,0,_ => by simp
 | e :: es,n + 1,h => by
  have he := h e (by simp)
  have := flat_takeL es n (fun x hx => h x (by simp [hx]))
  simp only [List.take_succ_cons,List.flatten_cons,this,Nat.add_mul,Nat.one_mul,List.take_append,he]
  rw [List.take_of_length_le (by omega:e.length≤n * k + k)]
  congr 2; omega

omit [Laid] in
theorem chunk_each {α:Type} {k:Nat}:∀ (n:Nat) (l:List α),l.length = n * k→∀ e∈chunk k n l,e.length = k
 | 0,_,_,e,he => by cases he
 | n + 1,l,hl,e,he => by
  rw [Nat.add_mul,Nat.one_mul] at hl
  simp only [chunk,List.mem_cons] at he
  rcases he with rfl | he
  ·rw [List.length_take]; omega
  ·exact chunk_each n (l.drop k) (by rw [List.length_drop]; omega) e he

theorem sliceP_len {k:Nat} {v:V} {x:Value} (h:Sim m w0 S0 Jo D Φ S st a w) (hv:VRel Φ S w v x) {es:List (List Pv)} (hs:sliceP st.hp k v = some es):∀ e∈es,e.length = k := by
 cases v with
 | p y =>
  cases y with
  | sl k' es' full =>
   cases es' with
   | nil =>
    simp only [sliceP,sJ] at hs
    subst hs; simp
   | cons e es' =>
    simp only [sliceP] at hs
    split at hs
    ·rename_i hk
     subst hk
     simp only [sJ] at hs
     subst hs
     cases hv with
     | p _ _ hp => cases hp with
      | sl _ _ _ _ _ _ _ _ _ _ _ _ _ hk _ _ => exact hk
    ·cases hs
  | _ => simp [sliceP] at hs
 | ref t ver o n k' =>
  simp only [sliceP] at hs
  split at hs
  ·rename_i b hb
   split at hs
   ·rename_i hc
    obtain ⟨_,_,rfl,hle⟩ := hc
    cases hps:allP ((b.cs.drop o).take (n * k')) with
    | none => simp [hps] at hs
    | some ps =>
     simp only [hps,Option.map_some,sJ] at hs
     subst hs
     have hmap := allP_map hps
     have hpl:ps.length = n * k' := by
      have := congrArg List.length hmap
      simp at this; omega
     exact chunk_each n ps hpl
   ·cases hs
  ·cases hs
 | _ => simp [sliceP] at hs

theorem give_cpy (h:Sim m w0 S0 Jo D Φ S st a w) {t t' ty e:TypeId} {k:Nat} (hu:P.underlying t = some (.slice e)) (hk:sz? P e = some k)
  {s:Nat} {b:Blk} (hb:st.hp[s]? = some b) (hl:b.st.isLive = true) {o n:Nat} {x y:Value} (hx:VRel Φ S w (.ref s b.ver o n k) x) (hle:o + n * k≤b.cs.length) {v:V} (hv:VRel Φ S w v y) {es:List (List Pv)} (hs:sliceP st.hp k v = some es) :
  Gives P m w0 S0 Jo D st a w (Builtin.copy_ #[t,t'] ty #[x,y]) (.p (.int .i64 (min es.length n:Nat))) (st.hp.set s ⟨b.ver,.live,wr b.cs o ((es.take (min es.length n)).flatten.map .p)⟩) := by
 have hl' : b.st = .live := by cases hbs:b.st <;> simp_all [BSt.isLive]
 obtain ⟨base2,cap2,rfl,hle2,hfl,hsrc⟩ := sliceP_rel h hv hs
 have hmm:Nat.min es.length n = min es.length n := rfl
 rcases Nat.eq_zero_or_pos (min es.length n) with h0 | h0
 ·-- nothing
  have hset:st.hp.set s ⟨b.ver,.live,wr b.cs o ((es.take (min es.length n)).flatten.map .p)⟩ = st.hp := by
   rw [h0]
   simp only [List.take_zero,List.flatten_nil,List.map_nil,wr]
   apply List.ext_getElem?
   intro j
   rw [List.getElem?_set]
   split
   ·rename_i e; subst e
    have hlt := (List.getElem?_eq_some_iff.1 hb).1
    rw [if_pos hlt,hb]
    obtain ⟨bv,bs,bc⟩ := b
    simp only at hl'
    rw [hl']
   ·rfl
  rw [hset,h0]
  obtain ⟨bx,capx,rfl⟩ := ref_len hx
  refine gives_same h (x := .int .i64 0) ?_ (.p _ _ (.int _ _))
  cases bx <;> cases base2 <;>
   simp [Builtin.copy_,run_underlying hu,Builtin.lenOf,hmm,h0,sz_run hk,Builtin.firstCells,loadCells,loadCellsFrom,storeCells,goInt]
 ·have hpos:0 < es.length := by omega
  obtain ⟨c2,o2,news,rfl,hnl,hnew,hnr⟩ := hsrc hpos
  cases hx with
  | refv => simp at h0
  | ref _ _ _ _ _ c sz cap hΦ hn hcap =>
   obtain ⟨arr,ty',k1,k2,k3,k4,k5,k6⟩ := live_of h hb hl' hΦ
   have hek:es.flatten.length = es.length * k := hfl
   let cnt := min es.length n
   have hcnt1:cnt≤es.length := Nat.min_le_left _ _
   have hcnt2:cnt≤n := Nat.min_le_right _ _
   have hnl2:(news.take (cnt * k)).length = cnt * k := by
    rw [List.length_take,hnl]
    exact Nat.min_eq_left (Nat.mul_le_mul_right _ hcnt1)
   have hone:∀ u∈news.take (cnt * k),u.oneCell' = true := by
    intro u hu'
    obtain ⟨j,hj⟩ := List.getElem?_of_mem (List.mem_of_mem_take hu')
    have hlt := (List.getElem?_eq_some_iff.1 hj).1
    have hp := hnr j (es.flatten[j]'(by omega)) (List.getElem?_eq_getElem _)
    have:news.getD j undef = u := by simp [List.getD,hj]
    rw [this] at hp; exact hp.cellOne
   have hle3:o + cnt * k≤arr.size := by
    have:cnt * k≤n * k := Nat.mul_le_mul_right _ hcnt2
    omega
   obtain ⟨w',arr',hrun,ho,hh,hs',hg⟩ := run_storeCells P (c := c) (o := o) (ty := ty') (news.take (cnt * k)) 0 w arr k1 hone (by rw [hnl2]; omega)
   have hflt:(es.take cnt).flatten = es.flatten.take (cnt * k) := by
    by_cases hkk:∀ e∈es,e.length = k
    ·exact flat_takeL es cnt hkk
    ·exact absurd (sliceP_len h hv hs) hkk
   refine ⟨.int .i64 cnt,w',Φ,S,?_,h.turn hb hl' hΦ ho hh (hs'.trans k2) (cs' := wr b.cs o ((es.take cnt).flatten.map .p)) (by rw [wr_length]; exact k3) ?_,.p _ _ (.int _ _)⟩
   ·have hf := run_firstCells_some (P := P) w k cnt ⟨c2,o2,none⟩ es.length cap2 (news.take (cnt * k)) hnl2 (fun j v hj => by
     rw [List.getElem?_take] at hj
     split at hj
     ·exact hnew j v hj
     ·cases hj)
    have hcn:Nat.min es.length n = cnt := rfl
    simp [Builtin.copy_,run_underlying hu,Builtin.lenOf,hcn,sz_run hk,hf,hrun,goInt]
   ·intro i u hi
    rw [hg i]
    rcases wr_get _ _ _ _ _ hi with ⟨h1,h2⟩ | ⟨h1,h2⟩
    ·rw [List.getElem?_map,hflt] at h2
     cases hf:(es.flatten.take (cnt * k))[i - o]? with
     | none => simp [hf] at h2
     | some p =>
      simp only [hf,Option.map_some,sJ] at h2
      subst h2
      have hlt := (List.getElem?_eq_some_iff.1 hf).1
      have hlt2:i - o < cnt * k := by
       rw [List.length_take] at hlt; omega
      rw [if_pos (by rw [hnl2]; omega)]
      rw [List.getElem?_take,if_pos hlt2] at hf
      have := hnr _ p hf
      simp only [Nat.add_zero]
      have e1:(news.take (cnt * k)).getD (i - o) undef = news.getD (i - o) undef := by
       simp only [List.getD]; rw [List.getElem?_take,if_pos hlt2]
      rw [e1]
      exact .p _ _ this
    ·rw [List.length_map,hflt,List.length_take,hek] at h1
     rw [if_neg (by
      rw [hnl2]
      have:cnt * k≤es.length * k := Nat.mul_le_mul_right _ hcnt1
      omega)]
     exact k4 i u h2
end
end Go.Mx
namespace Go.Mx
variable [Laid]
open Go.RowKit

section
variable {P:Program} {m:Nat} {w0:World} {S0 Jo:Nat→Prop} {D:Bs} {Φ:Plc} {S:Nat→Prop} {st:St} {a:Act} {w:World}

def Does (P:Program) (m:Nat) (w0:World) (S0 Jo:Nat→Prop) (D:Bs) (st:St) (a:Act) (w:World) (sem:Sem Next) (v:V) (hp' : List Blk):Prop :=
 ∃ nx x w' Φ' S',sem.run P w = .ok nx w'∧(nx = .value x ∨ (nx = .skip∧x = undef))∧Sim m w0 S0 Jo D Φ' S' ⟨st.ts,hp'⟩ a w'∧VRel Φ' S' w' v x

theorem Gives.does {sem:Sem Value} {v:V} {hp' : List Blk} (h:Gives P m w0 S0 Jo D st a w sem v hp'):Does P m w0 S0 Jo D st a w (do pure (.value (← sem))) v hp' := by
 obtain ⟨x,w',Φ',S',h1,h2,h3⟩ := h
 exact ⟨.value x,x,w',Φ',S',by rw [Sem.run_bind,h1]; rfl,.inl rfl,h2,h3⟩

omit [Laid] in
theorem und_agg {t:TypeId} {l:List (Bool×Nat)} {d:TypeDesc} (hu:P.underlying t = some d) (h1:∀ k,d ≠ .int k) (h2:d ≠ .bool) (he:eqOffs P 8 t 0 = some l):agg? P t = some true := by
 rw [agg_of hu]
 unfold eqOffs at he
 rw [hu] at he
 cases d <;> first | rfl | exact absurd rfl (h1 _) | exact absurd rfl h2 | (cases hs:sz? P t <;> rw [hs] at he <;> cases he)

theorem op_sound (h:Sim m w0 S0 Jo D Φ S st a w) {γ:Opd→V} (hγ:∀ x,VRel Φ S w (γ (cO x)) (a.eval x)) (hγi:∀ p,γ (.c (.p p)) = .p p) {s:Nat} {own:Bool} {o:Oper} {op:AOp} (hc:cOp P s own o = some op) {v:V} {hp' : List Blk} (hst:astep st.hp γ op = some (v,hp')) :
  Does P m w0 S0 Jo D st a w (execOp a.eval o) v hp' := by
 have g := hγ
 unfold cOp at hc
 unfold execOp
 split at hc
 -- move
 ·rename_i x hop
  simp only [sJ] at hc; subst hc
  simp only [astep,sJ,pJ] at hst
  obtain ⟨rfl,rfl⟩ := hst
  rw [hop]
  exact ⟨_,_,w,Φ,S,rfl,.inl rfl,h,g x⟩
 -- assign
 ·rename_i x hop
  simp only [sJ] at hc; subst hc
  simp only [astep,sJ,pJ] at hst
  obtain ⟨rfl,rfl⟩ := hst
  rw [hop]
  exact ⟨_,_,w,Φ,S,rfl,.inl rfl,h,g x⟩
 -- pick
 ·rename_i c x y hop
  simp only [sJ] at hc; subst hc
  simp only [astep] at hst
  split at hst
  ·rename_i b hb
   simp only [sJ,pJ] at hst
   obtain ⟨rfl,rfl⟩ := hst
   rw [hop]
   have hcb := g c
   rw [hb] at hcb
   refine ⟨.value (if b then a.eval x else a.eval y),_,w,Φ,S,?_,.inl rfl,h,?_⟩
   ·simp [inv_bool hcb,asBool]
   ·cases b
    ·rw [m_pick_f]; exact rel_unw (g y) rfl
    ·rw [m_pick_t]; exact rel_unw (g x) rfl
  ·cases hst
 -- nilCheck
 ·rename_i x hop
  simp only [sJ] at hc; subst hc
  rw [hop]
  have gx := g x
  simp only [astep] at hst
  split at hst
  ·rename_i t ver o' hx
   simp only [sJ,pJ] at hst
   obtain ⟨rfl,rfl⟩ := hst
   rw [hx] at gx
   obtain ⟨b0,o0,he⟩ : ∃ b0 o0,a.eval x = .pointer (some ⟨b0,o0,none⟩) := by
    generalize a.eval x = y at gx ⊢
    cases gx
    exact ⟨_,_,rfl⟩
   refine ⟨.value (a.eval x),_,w,Φ,S,?_,.inl rfl,h,gx⟩
   dsimp only
   rw [he]
   rfl
  ·rename_i cs hx
   simp only [sJ,pJ] at hst
   obtain ⟨rfl,rfl⟩ := hst
   rw [hx] at gx
   obtain ⟨b0,o0,he⟩ : ∃ b0 o0,a.eval x = .pointer (some ⟨b0,o0,none⟩) := by
    generalize a.eval x = y at gx ⊢
    cases gx
    exact ⟨_,_,rfl⟩
   refine ⟨.value (a.eval x),_,w,Φ,S,?_,.inl rfl,h,gx⟩
   dsimp only
   rw [he]
   rfl
  ·cases hst
 -- alloc
 ·rename_i e hop
  rw [hop]
  cases hz:zero? P e with
  | none => simp [hz] at hc
  | some z =>
   simp only [hz,Option.map_some,sJ] at hc; subst hc
   simp only [astep] at hst
   split at hst
   ·rename_i b hb
    simp only [sJ,pJ] at hst
    obtain ⟨rfl,rfl⟩ := hst
    exact (give_newz h hb hz).does
   ·cases hst
 -- box
 ·rename_i e x hop
  rw [hop]
  simp only [sJ] at hc; subst hc
  simp only [astep] at hst
  split at hst
  ·rename_i b cs hb hcs
   simp only [sJ,pJ] at hst
   obtain ⟨rfl,rfl⟩ := hst
   exact (give_box h hb (g x) hcs).does
  ·cases hst
 -- build
 ·rename_i t parts hop
  rw [hop]
  split at hc
  ·rename_i z fields hz hu
   split at hc
   ·rename_i ps hps
    cases hl:(parts.toList.mapM (partOf ps)) with
    | none => rw [hl] at hc; simp at hc
    | some l =>
     rw [hl] at hc
     simp only [Option.map_some,sJ] at hc; subst hc
     simp only [astep] at hst
     split at hst
     ·rename_i cs hcs
      simp only [sJ,pJ] at hst
      obtain ⟨rfl,rfl⟩ := hst
      exact (give_build_struct h hγ hz hu hps hl hcs).does
     ·cases hst
   ·cases hc
  ·rename_i z len e hz hu
   split at hc
   ·rename_i n hn
    simp only [sJ] at hc; subst hc
    simp only [astep] at hst
    split at hst
    ·rename_i cs hcs
     simp only [sJ,pJ] at hst
     obtain ⟨rfl,rfl⟩ := hst
     exact (give_build_array h hγ hz hu hn hcs).does
    ·cases hst
   ·cases hc
  ·cases hc
 -- buildSlice
 ·rename_i t n parts hop
  rw [hop]
  split at hc
  ·rename_i e hu
   split at hc
   ·rename_i k z hk hz
    split at hc
    ·rename_i hcond
     simp only [sJ] at hc; subst hc
     simp only [astep] at hst
     split at hst
     ·rename_i cs hcs
      obtain ⟨k1,k2⟩ := give_bsl h hγ hu hk hz hcond.1 hcond.2.1 hcond.2.2 hcs
      split at hst
      ·split at hst
       ·rename_i b hb
        simp only [sJ,pJ] at hst
        obtain ⟨rfl,rfl⟩ := hst
        exact (k1 _ _ hb).does
       ·cases hst
      ·split at hst
       ·rename_i ps hps
        simp only [sJ,pJ] at hst
        obtain ⟨rfl,rfl⟩ := hst
        exact (k2 _ hps).does
       ·cases hst
     ·cases hst
    ·cases hc
   ·cases hc
  ·cases hc
 -- load
 ·rename_i t x hop
  rw [hop]
  split at hc
  ·rename_i n ha hn
   simp only [sJ] at hc; subst hc
   simp only [astep] at hst
   split at hst
   ·rename_i cs hcs
    split at hst
    ·rename_i hle
     simp only [sJ,pJ] at hst
     obtain ⟨rfl,rfl⟩ := hst
     exact (give_ldn h ha hn (g x) hcs hle).does
    ·cases hst
   ·cases hst
  ·rename_i n ha hn
   simp only [sJ] at hc; subst hc
   simp only [astep] at hst
   split at hst
   ·rename_i cs hcs
    cases hu:cs[0]? with
    | none => simp [hu] at hst
    | some u =>
     simp only [hu,Option.map_some,sJ,pJ] at hst
     obtain ⟨rfl,rfl⟩ := hst
     exact (give_ld1 h ha hn (g x) hcs hu).does
   ·cases hst
  ·cases hc
 -- store
 ·rename_i t x y hop
  rw [hop]
  cases hn:sz? P t with
  | none => simp [hn] at hc
  | some n =>
   simp only [hn,Option.map_some,sJ] at hc; subst hc
   simp only [astep] at hst
   split at hst
   ·rename_i s' ver o' vs hx hvs
    split at hst
    ·rename_i b hb
     split at hst
     ·rename_i hcond
      obtain ⟨c1,c2,c3,c4,c5⟩ := hcond
      simp only [sJ,pJ] at hst
      obtain ⟨rfl,rfl⟩ := hst
      have hx' := g x
      rw [hx] at hx'
      obtain ⟨w',h1,h2⟩ := give_st h hn hx' (g y) hvs hb c1 c2 c3 c4 c5
      exact ⟨.skip,undef,w',Φ,S,by rw [Sem.run_bind,h1]; rfl,.inr ⟨rfl,rfl⟩,h2,.und _⟩
     ·cases hst
    ·cases hst
   ·cases hst
 -- binOp
 ·rename_i op' t x y yt hop
  rw [hop]
  have ints:∀ {op'' : BinOp},AOp.bin op'' (cO x) (cO y) = op→Does P m w0 S0 Jo D st a w (do pure (.value (← (do eqGuard op'' t x y (a.eval x) (a.eval y); binOp op'' t (a.eval x) (a.eval y))))) v hp' := by
   intro op'' e
   subst e
   simp only [astep] at hst
   split at hst
   ·rename_i k n k' l hx hy
    split at hst
    ·rename_i hk
     subst hk
     cases hr:binI op'' k n l with
     | none => simp [hr] at hst
     | some r =>
      simp only [hr,Option.map_some,sJ,pJ] at hst
      obtain ⟨rfl,rfl⟩ := hst
      have gx := g x
      have gy := g y
      rw [hx] at gx
      rw [hy] at gy
      exact (give_bin h gx gy hr).does
    ·cases hst
   ·cases hst
  have bools:∀ {op'' : BinOp} {neg:Bool},((op'' = .eql∧neg = false) ∨ (op'' = .neq∧neg = true))→P.underlying t = some .bool→AOp.eqb neg (cO x) (cO y) = op→Does P m w0 S0 Jo D st a w (do pure (.value (← (do eqGuard op'' t x y (a.eval x) (a.eval y); binOp op'' t (a.eval x) (a.eval y))))) v hp' := by
   intro op'' neg ho hu e
   subst e
   simp only [astep] at hst
   split at hst
   ·rename_i b c hx hy
    simp only [sJ,pJ] at hst
    obtain ⟨rfl,rfl⟩ := hst
    have gx := g x
    have gy := g y
    rw [hx] at gx
    rw [hy] at gy
    exact (give_eqb h ho hu gx gy).does
   ·cases hst
  have aggs:∀ {op'' : BinOp} {neg:Bool} {d:TypeDesc} {l:List (Bool×Nat)} {n:Nat},((op'' = .eql∧neg = false) ∨ (op'' = .neq∧neg = true))→P.underlying t = some d→(∀ k,d ≠ .int k)→d ≠ .bool→¬ (P.eqGuardType P.depth t = true) →
    eqOffs P 8 t 0 = some l→sz? P t = some n→AOp.eqa neg n l (cO x) (cO y) = op→Does P m w0 S0 Jo D st a w (do pure (.value (← (do eqGuard op'' t x y (a.eval x) (a.eval y); binOp op'' t (a.eval x) (a.eval y))))) v hp' := by
   intro op'' neg d l n ho hu hd1 hd2 hg hl hn e
   subst e
   simp only [astep] at hst
   split at hst
   ·rename_i xs ys hx hy
    split at hst
    ·rename_i hlen
     cases hb:eqCells xs ys l with
     | none => simp [hb] at hst
     | some b =>
      simp only [hb,Option.map_some,sJ,pJ] at hst
      obtain ⟨rfl,rfl⟩ := hst
      have gx := g x
      have gy := g y
      rw [hx] at gx
      rw [hy] at gy
      exact (give_eqa h ho (by simpa using hg) hl hn gx gy hlen.1 hlen.2 hb (und_agg hu hd1 hd2 hl)).does
    ·cases hst
   ·cases hst
  have shs:∀ {left:Bool},AOp.sh left (cO x) (cO y) = op→Does P m w0 S0 Jo D st a w (do pure (.value (← (do eqGuard (if left then .shl else .shr) t x y (a.eval x) (a.eval y); binOp (if left then .shl else .shr) t (a.eval x) (a.eval y))))) v hp' := by
   intro left e
   subst e
   simp only [astep] at hst
   split at hst
   ·rename_i k n k' l hx hy
    split at hst
    ·rename_i hl
     simp only [sJ,pJ] at hst
     obtain ⟨rfl,rfl⟩ := hst
     have gx := g x
     have gy := g y
     rw [hx] at gx
     rw [hy] at gy
     exact (give_sh h gx gy hl).does
    ·cases hst
   ·cases hst
  have strs:∀ {op'' : BinOp} {neg:Bool},((op'' = .eql∧neg = false) ∨ (op'' = .neq∧neg = true))→AOp.scmp neg (cO x) (cO y) = op→Does P m w0 S0 Jo D st a w (do pure (.value (← (do eqGuard op'' t x y (a.eval x) (a.eval y); binOp op'' t (a.eval x) (a.eval y))))) v hp' := by
   intro op'' neg ho e
   subst e
   simp only [astep] at hst
   split at hst
   ·rename_i b c hx hy
    simp only [sJ,pJ] at hst
    obtain ⟨rfl,rfl⟩ := hst
    have gx := g x
    have gy := g y
    rw [hx] at gx
    rw [hy] at gy
    exact (give_scmp h ho gx gy).does
   ·cases hst
  have ifcs:∀ {op'' : BinOp} {neg:Bool} {ms:Array (String×TypeId)},((op'' = .eql∧neg = false) ∨ (op'' = .neq∧neg = true))→P.underlying t = some (.interface ms)→y = .const .nilIface→AOp.isi neg (cO x) = op→Does P m w0 S0 Jo D st a w (do pure (.value (← (do eqGuard op'' t x y (a.eval x) (a.eval y); binOp op'' t (a.eval x) (a.eval y))))) v hp' := by
   intro op'' neg ms ho hu hy e
   subst e
   subst hy
   simp only [astep] at hst
   split at hst
   ·rename_i b hx
    simp only [sJ,pJ] at hst
    obtain ⟨rfl,rfl⟩ := hst
    have gx := g x
    rw [hx] at gx
    exact (give_isi h ho hu gx).does
   ·cases hst
  split at hc
  ·simp only [sJ] at hc; exact ints hc
  ·simp only [sJ] at hc; exact ints hc
  ·rename_i ms hu
   split at hc
   ·simp only [sJ] at hc; exact ifcs (.inl ⟨rfl,rfl⟩) hu rfl hc
   ·cases hc
  ·rename_i ms hu
   split at hc
   ·simp only [sJ] at hc; exact ifcs (.inr ⟨rfl,rfl⟩) hu rfl hc
   ·cases hc
  ·simp only [sJ] at hc; exact strs (.inl ⟨rfl,rfl⟩) hc
  ·simp only [sJ] at hc; exact strs (.inr ⟨rfl,rfl⟩) hc
  ·simp only [sJ] at hc
   subst hc
   simp only [astep] at hst
   split at hst
   ·rename_i b c hx hy
    split at hst
    ·rename_i hl
     simp only [sJ,pJ] at hst
     obtain ⟨rfl,rfl⟩ := hst
     have gx := g x
     have gy := g y
     rw [hx] at gx
     rw [hy] at gy
     exact (give_sadd h gx gy hl).does
    ·cases hst
   ·cases hst
  ·rename_i hu; simp only [sJ] at hc; exact bools (.inl ⟨rfl,rfl⟩) hu hc
  ·rename_i hu; simp only [sJ] at hc; exact bools (.inr ⟨rfl,rfl⟩) hu hc
  ·rename_i e hu
   split at hc
   ·simp only [sJ] at hc; subst hc
    simp only [astep] at hst
    have gx := g x
    split at hst
    ·rename_i k es full hx
     simp only [sJ,pJ] at hst
     obtain ⟨rfl,rfl⟩ := hst
     rw [hx] at gx
     exact (give_isn h hu gx rfl (.inl ⟨k,es,full,rfl,rfl⟩)).does
    ·rename_i t' ver o n k hx
     simp only [sJ,pJ] at hst
     obtain ⟨rfl,rfl⟩ := hst
     rw [hx] at gx
     exact (give_isn h hu gx rfl (.inr ⟨t',ver,o,k,rfl⟩)).does
    ·cases hst
   ·cases hc
  ·rename_i d h1 hi hs h2 h3 hu
   split at hc
   ·cases hc
   ·rename_i hg
    split at hc
    ·rename_i l n hl hn
     simp only [sJ] at hc
     exact aggs (.inl ⟨rfl,rfl⟩) hu (fun k e => by subst e; exact h1 k rfl) (fun e => by subst e; exact h2 rfl) hg hl hn hc
    ·cases hc
  ·rename_i d h1 hi hs h2 hu
   split at hc
   ·cases hc
   ·rename_i hg
    split at hc
    ·rename_i l n hl hn
     simp only [sJ] at hc
     exact aggs (.inr ⟨rfl,rfl⟩) hu (fun k e => by subst e; exact h1 k rfl) (fun e => by subst e; exact h2 rfl) hg hl hn hc
    ·cases hc
  ·simp only [sJ] at hc; exact shs (left := true) hc
  ·simp only [sJ] at hc; exact shs (left := false) hc
  ·simp only [sJ] at hc; exact ints hc
 -- not
 ·rename_i t x hop
  rw [hop]
  simp only [sJ] at hc; subst hc
  simp only [astep] at hst
  split at hst
  ·rename_i b hx
   simp only [sJ,pJ] at hst
   obtain ⟨rfl,rfl⟩ := hst
   have gx := g x
   rw [hx] at gx
   exact (give_unot h gx).does
  ·cases hst
 -- neg
 ·rename_i t x hop
  rw [hop]
  simp only [sJ] at hc; subst hc
  simp only [astep] at hst
  split at hst
  ·rename_i k n hx
   simp only [sJ,pJ] at hst
   obtain ⟨rfl,rfl⟩ := hst
   have gx := g x
   rw [hx] at gx
   exact (give_uneg h gx).does
  ·cases hst
 -- xor
 ·rename_i t x hop
  rw [hop]
  simp only [sJ] at hc; subst hc
  simp only [astep] at hst
  split at hst
  ·rename_i k n hx
   simp only [sJ,pJ] at hst
   obtain ⟨rfl,rfl⟩ := hst
   have gx := g x
   rw [hx] at gx
   exact (give_bnot h gx).does
  ·cases hst
 -- convert
 ·rename_i src dst x hop
  rw [hop]
  split at hc
  ·rename_i j k hs hd
   simp only [sJ] at hc; subst hc
   simp only [astep] at hst
   split at hst
   ·rename_i k' n hx
    simp only [sJ,pJ] at hst
    obtain ⟨rfl,rfl⟩ := hst
    have gx := g x
    rw [hx] at gx
    exact (give_conv h hs hd gx).does
   ·cases hst
  ·rename_i e hs hd
   split at hc
   ·rename_i he
    split at hc
    ·simp only [sJ] at hc; subst hc
     simp only [astep] at hst
     split at hst
     ·rename_i k es full hx
      split at hst
      ·rename_i l hl
       split at hst
       ·rename_i hk1
        simp only [sJ,pJ] at hst
        obtain ⟨rfl,rfl⟩ := hst
        have gx := g x
        rw [hx] at gx
        exact (give_sof h hs he hd gx hl hk1).does
       ·cases hst
      ·cases hst
     ·cases hst
    ·cases hc
   ·cases hc
  ·cases hc
 -- fieldAddr
 ·rename_i t x f hop
  rw [hop]
  split at hc
  ·rename_i fields hu
   split at hc
   ·rename_i fl hf
    split at hc
    ·rename_i n hn
     simp only [sJ] at hc; subst hc
     simp only [astep] at hst
     have gx := g x
     split at hst
     ·rename_i s' ver o' hx
      simp only [sJ,pJ] at hst
      obtain ⟨rfl,rfl⟩ := hst
      rw [hx] at gx
      exact ((give_fa h hu hf hn).1 _ _ _ gx).does
     ·rename_i cs hx
      simp only [sJ,pJ] at hst
      obtain ⟨rfl,rfl⟩ := hst
      rw [hx] at gx
      exact ((give_fa h hu hf hn).2 _ gx).does
     ·cases hst
    ·cases hc
   ·cases hc
  ·cases hc
 -- indexAddr
 ·rename_i t x i hop
  rw [hop]
  split at hc
  ·rename_i e hu
   cases hk:sz? P e with
   | none => simp [hk] at hc
   | some k =>
    simp only [hk,Option.map_some,sJ] at hc; subst hc
    simp only [astep] at hst
    have gx := g x
    have gi := g i
    split at hst
    ·rename_i k' es full kk n hx hi
     split at hst
     ·rename_i hcond
      obtain ⟨c1,c2,rfl⟩ := hcond
      simp only [sJ,pJ] at hst
      obtain ⟨rfl,rfl⟩ := hst
      rw [hx] at gx
      rw [hi] at gi
      exact ((give_ia h hu hk gi c1).1 _ _ gx c2).does
     ·cases hst
    ·rename_i s' ver o' len k' kk n hx hi
     split at hst
     ·rename_i hcond
      obtain ⟨c1,c2,rfl⟩ := hcond
      simp only [sJ,pJ] at hst
      obtain ⟨rfl,rfl⟩ := hst
      rw [hx] at gx
      rw [hi] at gi
      exact ((give_ia h hu hk gi c1).2 _ _ _ _ gx c2).does
     ·cases hst
    ·cases hst
  ·rename_i len e hu
   cases hk:sz? P e with
   | none => simp [hk] at hc
   | some k =>
    simp only [hk,Option.map_some,sJ] at hc; subst hc
    simp only [astep] at hst
    have gx := g x
    have gi := g i
    split at hst
    ·rename_i s' ver o' kk n hx hi
     split at hst
     ·rename_i hcond
      simp only [sJ,pJ] at hst
      obtain ⟨rfl,rfl⟩ := hst
      rw [hx] at gx
      rw [hi] at gi
      exact ((give_iaa h hu hk gi hcond.1 hcond.2).1 _ _ _ gx).does
     ·cases hst
    ·rename_i cs kk n hx hi
     split at hst
     ·rename_i hcond
      simp only [sJ,pJ] at hst
      obtain ⟨rfl,rfl⟩ := hst
      rw [hx] at gx
      rw [hi] at gi
      exact ((give_iaa h hu hk gi hcond.1 hcond.2).2 _ gx).does
     ·cases hst
    ·cases hst
  ·cases hc
 -- field
 ·rename_i t x f hop
  rw [hop]
  split at hc
  ·rename_i fields hu
   split at hc
   ·rename_i fl hf
    have both:∀ (b:Bool) (n:Nat),agg? P fl.type = some b→sz? P fl.type = some n→AOp.prt fl.offset (if b then some n else none) (cO x) = op→Does P m w0 S0 Jo D st a w (do pure (.value (← Instr.field t (a.eval x) f))) v hp' := by
     intro b n ha hn e
     subst e
     simp only [astep] at hst
     split at hst
     ·rename_i cs hx
      cases hv:part? cs fl.offset (if b then some n else none) with
      | none => simp [hv] at hst
      | some v' =>
       simp only [hv,Option.map_some,sJ,pJ] at hst
       obtain ⟨rfl,rfl⟩ := hst
       have gx := g x
       rw [hx] at gx
       exact (give_field h hu hf ha hn gx hv).does
     ·cases hst
    split at hc
    ·rename_i n ha hn
     simp only [sJ] at hc
     exact both true n ha hn hc
    ·rename_i n ha hn
     simp only [sJ] at hc
     exact both false _ ha hn hc
    ·cases hc
   ·cases hc
  ·cases hc
 -- index
 ·rename_i t x i hop
  rw [hop]
  split at hc
  ·rename_i hu
   simp only [sJ] at hc; subst hc
   simp only [astep] at hst
   split at hst
   ·rename_i s kk n hx hi
    split at hst
    ·rename_i h0
     split at hst
     ·rename_i b hb
      simp only [sJ,pJ] at hst
      obtain ⟨rfl,rfl⟩ := hst
      have gx := g x
      have gi := g i
      rw [hx] at gx
      rw [hi] at gi
      exact (give_six h hu gx gi h0 hb).does
     ·cases hst
    ·cases hst
   ·cases hst
  ·rename_i len e hu
   split at hc
   ·rename_i b k ha hk
    simp only [sJ] at hc; subst hc
    simp only [astep] at hst
    split at hst
    ·rename_i cs kk n hx hi
     split at hst
     ·rename_i hcond
      cases hv:part? cs (n.toNat * k) (if b then some k else none) with
      | none => simp [hv] at hst
      | some v' =>
       simp only [hv,Option.map_some,sJ,pJ] at hst
       obtain ⟨rfl,rfl⟩ := hst
       have gx := g x
       have gi := g i
       rw [hx] at gx
       rw [hi] at gi
       exact (give_idx h hu ha hk gx gi hcond.1 hcond.2 hv).does
     ·cases hst
    ·cases hst
   ·cases hc
  ·cases hc
 -- extract
 ·rename_i x i hop
  rw [hop]
  simp only [sJ] at hc; subst hc
  simp only [astep] at hst
  split at hst
  ·rename_i vs hx
   cases hv:vs[i]? with
   | none => simp [hv] at hst
   | some v' =>
    simp only [hv,Option.map_some,sJ,pJ] at hst
    obtain ⟨rfl,rfl⟩ := hst
    have gx := g x
    rw [hx] at gx
    exact (give_ext h gx hv).does
  ·cases hst
 -- slice
 ·rename_i t x lo hi hop
  rw [hop]
  split at hc
  ·rename_i hu
   simp only [sJ] at hc; subst hc
   simp only [astep] at hst
   split at hst
   ·rename_i r hx
    split at hst
    ·rename_i l hh hl hhh
     split at hst
     ·rename_i hcond
      simp only [sJ,pJ] at hst
      obtain ⟨rfl,rfl⟩ := hst
      have gx := g x
      rw [hx] at gx
      exact (give_ssl h hγ hu gx hl hhh hcond.1 hcond.2.1 hcond.2.2).does
     ·cases hst
    ·cases hst
   ·cases hst
  ·rename_i e hu
   cases hk:sz? P e with
   | none => simp [hk] at hc
   | some k =>
    simp only [hk,Option.map_some,sJ] at hc; subst hc
    simp only [astep] at hst
    have gx := g x
    split at hst
    ·rename_i k' es full hx
     split at hst
     ·rename_i l hh hl hhh
      split at hst
      ·rename_i hcond
       simp only [sJ,pJ] at hst
       obtain ⟨rfl,rfl⟩ := hst
       rw [hx] at gx
       exact ((give_sl h hγ hu hk).1 _ _ _ _ _ gx hl hhh hcond.1 hcond.2.1 hcond.2.2.1 hcond.2.2.2).does
      ·cases hst
     ·cases hst
    ·rename_i s' ver o' n k' hx
     split at hst
     ·rename_i l hh hl hhh
      split at hst
      ·rename_i hcond
       obtain ⟨c1,c2,c3,rfl⟩ := hcond
       simp only [sJ,pJ] at hst
       obtain ⟨rfl,rfl⟩ := hst
       rw [hx] at gx
       exact ((give_sl h hγ hu hk).2 _ _ _ _ _ _ gx hl hhh c1 c2 c3).does
      ·cases hst
     ·cases hst
    ·cases hst
  ·rename_i n e hu
   cases hk:sz? P e with
   | none => simp [hk] at hc
   | some k =>
    simp only [hk,Option.map_some,sJ] at hc; subst hc
    simp only [astep] at hst
    have gx := g x
    split at hst
    ·rename_i s' ver o' hx
     split at hst
     ·rename_i l hh b hl hhh hb
      split at hst
      ·rename_i hcond
       obtain ⟨rfl,c2,c3,c4,c5,c6⟩ := hcond
       simp only [sJ,pJ] at hst
       obtain ⟨rfl,rfl⟩ := hst
       rw [hx] at gx
       exact (give_sla h hγ hu hk gx hb c2 c3 hl hhh c4 c5 c6).does
      ·cases hst
     ·cases hst
    ·rename_i cs hx
     split at hst
     ·rename_i l hh hl hhh
      split at hst
      ·rename_i hcond
       obtain ⟨c1,c4,c5,c6⟩ := hcond
       simp only [sJ,pJ] at hst
       obtain ⟨rfl,rfl⟩ := hst
       rw [hx] at gx
       exact (give_sla_ipt h hγ hu hk gx c1 hl hhh c4 c5 c6).does
      ·cases hst
     ·cases hst
    ·cases hst
  ·cases hc
 -- slice with its capacity
 ·rename_i t x lo hi mx hop
  rw [hop]
  split at hc
  ·rename_i e hu
   cases hk:sz? P e with
   | none => simp [hk] at hc
   | some k =>
    simp only [hk,Option.map_some,sJ] at hc; subst hc
    simp only [astep] at hst
    have gx := g x
    split at hst
    ·rename_i k' es full hx
     split at hst
     ·rename_i l hh mm hl hhh hmm
      split at hst
      ·rename_i hcond
       obtain ⟨c1,c2,c3,c4,c5⟩ := hcond
       simp only [sJ,pJ] at hst
       obtain ⟨rfl,rfl⟩ := hst
       rw [hx] at gx
       exact (give_sl3 h hγ hu hk gx hl hhh hmm c1 c2 c3 c4 c5).does
      ·cases hst
     ·cases hst
    ·cases hst
  ·cases hc
 -- makeSlice
 ·rename_i t l c hop
  rw [hop]
  split at hc
  ·rename_i e hu
   split at hc
   ·rename_i i z hi hz
    split at hc
    ·rename_i hcond
     simp only [sJ] at hc; subst hc
     simp only [astep] at hst
     split at hst
     ·rename_i b n hb hl
      split at hst
      ·rename_i hcond2
       simp only [sJ,pJ] at hst
       obtain ⟨rfl,rfl⟩ := hst
       have gl := g l
       rw [hl] at gl
       have hsame:a.eval c = a.eval l := by
        have := hcond.2.2
        unfold sameOpd at this
        split at this
        ·simp only [beq_iff_eq] at this; rw [this]
        ·simp only [Bool.and_eq_true,beq_iff_eq] at this; rw [this.1,this.2]
        ·cases this
       have := give_mk (P := P) h hu hi hz hcond.1 hcond.2.1 hb (inv_int gl) hcond2.1 hcond2.2.1 hcond2.2.2
       simp only [hsame]
       exact this.does
      ·cases hst
     ·cases hst
    ·cases hc
   ·cases hc
  ·cases hc
 -- makeFunc
 ·rename_i f first caps hop
  rw [hop]
  split at hc
  ·rename_i hff
   split at hc
   ·rename_i hf
    simp only [sJ] at hc; subst hc
    simp only [astep,sJ,pJ] at hst
    obtain ⟨rfl,rfl⟩ := hst
    have he:first.map a.eval = #[] := by
     have:first = #[] := Array.eq_empty_of_size_eq_zero hf
     subst this; simp
    simp only [he]
    exact (give_clo h hγ hff).does
   ·split at hc
    ·rename_i x hx hcap
     simp only [sJ] at hc; subst hc
     simp only [astep] at hst
     have e1:first = #[x] := by rw [← Array.toList_inj]; simpa using hx
     have e2:caps = #[] := by rw [← Array.toList_inj]; simpa using hcap
     subst e1 e2
     split at hst
     ·rename_i cs hcs
      split at hst
      ·rename_i ps hps
       simp only [sJ,pJ] at hst
       obtain ⟨rfl,rfl⟩ := hst
       have gx := g x
       rw [hcs] at gx
       have := give_bnd (P := P) (f := f) h gx hps
       simpa using this.does
      ·cases hst
     ·cases hst
    ·cases hc
  ·cases hc
 -- call
 ·rename_i c hop
  rw [hop]
  have build:∀ {b:Builtin} {ts:Array TypeId} {args:Array Value} (cs:Array Bool),(resolve a.eval c o.type).run P w = .ok { target := .builtin b ts o.type cs,args := args } w→∀ {sem:Sem Value},Gives P m w0 S0 Jo D st a w sem v hp' →
    (builtin b ts o.type cs args) = (do pure (.value (← sem)))→Does P m w0 S0 Jo D st a w (do let d ← resolve a.eval c o.type; invoke d.target d.args) v hp' := by
   intro b ts args cs hr sem hg he
   obtain ⟨nx,x,w',Φ',S',h1,h2,h3,h4⟩ := hg.does
   refine ⟨nx,x,w',Φ',S',?_,h2,h3,h4⟩
   rw [Sem.run_bind,hr]
   simp only [Result.andThen_ok,invoke,he]
   exact h1
  split at hc
  -- a function of the model's own
  ·rename_i f hcal
   split at hc
   ·rename_i x y z hadd hargs
    simp only [sJ] at hc; subst hc
    simp only [astep] at hst
    split at hst
    ·rename_i na nb nc hx hy hz
     split at hst
     ·rename_i hrange
      simp only [sJ,pJ] at hst
      obtain ⟨rfl,rfl⟩ := hst
      have gx := g x
      have gy := g y
      have gz := g z
      rw [hx] at gx; rw [hy] at gy; rw [hz] at gz
      have hargs' : c.args = #[x,y,z] := by apply Array.ext'; simpa using hargs
      unfold isAdd64 at hadd
      split at hadd
      ·rename_i fn hfn
       simp only [Bool.and_eq_true,beq_iff_eq] at hadd
       obtain ⟨⟨hname,hbody⟩,hnext⟩ := hadd
       have hn:Extern.findNext fn = none := by simpa using hnext
       have he:Extern.find fn = some add64Entry := by
        unfold Extern.find
        rw [hname]; rfl
       refine ⟨_,_,w,Φ,S,?_,.inl rfl,h,.tup _ #[.int .u64 ((na + nb + nc) % 18446744073709551616),.int .u64 ((na + nb + nc) / 18446744073709551616)] rfl ?_⟩
       ·have hc' := run_callFunc_extern hfn (by rw [hname]; decide) hbody hn he #[.int .u64 na,.int .u64 nb,.int .u64 nc] w
        rw [run_add64 na nb nc hrange.1 hrange.2.1 hrange.2.2.1 hrange.2.2.2] at hc'
        simp only [Result.andThen] at hc'
        have e:c.args.map a.eval = #[.int .u64 na,.int .u64 nb,.int .u64 nc] := by
         rw [hargs']
         simp [inv_int gx,inv_int gy,inv_int gz]
        simp [resolve,hcal,Deferred.ofValue,Act.eval,invoke,e,hc']
       ·intro i v hv
        match i with
        | 0 => simp at hv; subst hv; exact .p _ _ (.int _ _)
        | 1 => simp at hv; subst hv; exact .p _ _ (.int _ _)
        | i + 2 => simp at hv
      ·cases hadd
     ·cases hst
    ·cases hst
   ·simp only [sJ] at hc; subst hc
    simp only [badOp,astep,hγi] at hst
    cases hst
  -- len
  ·rename_i hcal
   split at hc
   ·rename_i t x ht hx
    have hargs:c.args = #[x] := by apply Array.ext'; simpa using hx
    have htys:c.argTypes[0]? = some t := ht
    obtain ⟨css,hres⟩ : ∃ css,(resolve a.eval c o.type).run P w = .ok { target := .builtin .len c.argTypes o.type css,args := #[a.eval x] } w := ⟨_,by simp only [resolve,hcal]; rw [show c.args.map a.eval = #[a.eval x] by rw [hargs]; simp]; rfl⟩
    have hlen:∀ y,Builtin.len_ c.argTypes o.type #[y] = Builtin.len_ #[t] o.type #[y] := by
     intro y
     simp only [Builtin.len_,htys]
     rfl
    have gx := g x
    split at hc
    ·rename_i hu
     simp only [sJ] at hc; subst hc
     simp only [astep] at hst
     split at hst
     ·rename_i s' hx'
      simp only [sJ,pJ] at hst
      obtain ⟨rfl,rfl⟩ := hst
      rw [hx'] at gx
      refine build _ hres ((give_len (ty := o.type) h).2.2 _ hu gx) ?_
      simp only [builtin,hlen]
     ·cases hst
    ·rename_i e hu
     simp only [sJ] at hc; subst hc
     simp only [astep] at hst
     split at hst
     ·rename_i k' es full hx'
      simp only [sJ,pJ] at hst
      obtain ⟨rfl,rfl⟩ := hst
      rw [hx'] at gx
      refine build _ hres ((give_len (ty := o.type) h).1 _ _ _ _ hu gx) ?_
      simp only [builtin,hlen]
     ·rename_i s' ver o' n k' hx'
      simp only [sJ,pJ] at hst
      obtain ⟨rfl,rfl⟩ := hst
      rw [hx'] at gx
      refine build _ hres ((give_len (ty := o.type) h).2.1 _ _ _ _ _ _ hu gx) ?_
      simp only [builtin,hlen]
     ·cases hst
    ·rename_i n e hu
     simp only [sJ] at hc; subst hc
     simp only [astep,sJ,pJ] at hst
     obtain ⟨rfl,rfl⟩ := hst
     refine build _ hres (gives_same h (x := .int .i64 n) (sem := Builtin.len_ #[t] o.type #[a.eval x]) ?_ (by rw [hγi]; exact .p _ _ (.int _ _))) ?_
     ·simp [Builtin.len_,run_underlying hu,goInt]
     ·simp only [builtin,hlen]
    ·cases hc
   ·cases hc
  -- min
  ·rename_i hcal
   split at hc
   ·rename_i x y hx
    have hargs:c.args = #[x,y] := by apply Array.ext'; simpa using hx
    obtain ⟨css,hres⟩ : ∃ css,(resolve a.eval c o.type).run P w = .ok { target := .builtin .min c.argTypes o.type css,args := #[a.eval x,a.eval y] } w := ⟨_,by simp only [resolve,hcal]; rw [show c.args.map a.eval = #[a.eval x,a.eval y] by rw [hargs]; simp]; rfl⟩
    simp only [sJ] at hc; subst hc
    simp only [astep] at hst
    split at hst
    ·rename_i k n k' l hx' hy'
     simp only [sJ,pJ] at hst
     obtain ⟨rfl,rfl⟩ := hst
     have gx := g x
     have gy := g y
     rw [hx'] at gx
     rw [hy'] at gy
     refine build _ hres (give_mm (ts := c.argTypes) (ty := o.type) h gx gy).2 ?_
     simp only [builtin]
    ·cases hst
   ·rename_i x y z hx
    have hargs:c.args = #[x,y,z] := by apply Array.ext'; simpa using hx
    obtain ⟨css,hres⟩ : ∃ css,(resolve a.eval c o.type).run P w = .ok { target := .builtin .min c.argTypes o.type css,args := #[a.eval x,a.eval y,a.eval z] } w := ⟨_,by simp only [resolve,hcal]; rw [show c.args.map a.eval = #[a.eval x,a.eval y,a.eval z] by rw [hargs]; simp]; rfl⟩
    simp only [sJ] at hc; subst hc
    simp only [astep] at hst
    split at hst
    ·rename_i k n k' l k'' q hx' hy' hz'
     simp only [sJ,pJ] at hst
     obtain ⟨rfl,rfl⟩ := hst
     have gx := g x
     have gy := g y
     have gz := g z
     rw [hx'] at gx
     rw [hy'] at gy
     rw [hz'] at gz
     refine build _ hres (give_mm3 (ts := c.argTypes) (ty := o.type) h gx gy gz).2 ?_
     simp only [builtin]
    ·cases hst
   ·cases hc
  -- max
  ·rename_i hcal
   split at hc
   ·rename_i x y hx
    have hargs:c.args = #[x,y] := by apply Array.ext'; simpa using hx
    obtain ⟨css,hres⟩ : ∃ css,(resolve a.eval c o.type).run P w = .ok { target := .builtin .max c.argTypes o.type css,args := #[a.eval x,a.eval y] } w := ⟨_,by simp only [resolve,hcal]; rw [show c.args.map a.eval = #[a.eval x,a.eval y] by rw [hargs]; simp]; rfl⟩
    simp only [sJ] at hc; subst hc
    simp only [astep] at hst
    split at hst
    ·rename_i k n k' l hx' hy'
     simp only [sJ,pJ] at hst
     obtain ⟨rfl,rfl⟩ := hst
     have gx := g x
     have gy := g y
     rw [hx'] at gx
     rw [hy'] at gy
     refine build _ hres (give_mm (ts := c.argTypes) (ty := o.type) h gx gy).1 ?_
     simp only [builtin]
    ·cases hst
   ·rename_i x y z hx
    have hargs:c.args = #[x,y,z] := by apply Array.ext'; simpa using hx
    obtain ⟨css,hres⟩ : ∃ css,(resolve a.eval c o.type).run P w = .ok { target := .builtin .max c.argTypes o.type css,args := #[a.eval x,a.eval y,a.eval z] } w := ⟨_,by simp only [resolve,hcal]; rw [show c.args.map a.eval = #[a.eval x,a.eval y,a.eval z] by rw [hargs]; simp]; rfl⟩
    simp only [sJ] at hc; subst hc
    simp only [astep] at hst
    split at hst
    ·rename_i k n k' l k'' q hx' hy' hz'
     simp only [sJ,pJ] at hst
     obtain ⟨rfl,rfl⟩ := hst
     have gx := g x
     have gy := g y
     have gz := g z
     rw [hx'] at gx
     rw [hy'] at gy
     rw [hz'] at gz
     refine build _ hres (give_mm3 (ts := c.argTypes) (ty := o.type) h gx gy gz).1 ?_
     simp only [builtin]
    ·cases hst
   ·cases hc
  -- append
  ·rename_i hcal
   split at hc
   ·rename_i t t' x y htys hx
    have hargs:c.args = #[x,y] := by apply Array.ext'; simpa using hx
    split at hc
    ·rename_i e e' hu hu'
     split at hc
     ·rename_i i z hi hz
      split at hc
      ·rename_i hcond
       obtain ⟨rfl,c2,c3,c4⟩ := hcond
       simp only [sJ] at hc; subst hc
       have hty:c.argTypes = #[t',t'] := by apply Array.ext'; simpa using htys
       obtain ⟨css,hres⟩ : ∃ css,(resolve a.eval c o.type).run P w = .ok { target := .builtin .append #[t',t'] o.type css,args := #[a.eval x,a.eval y] } w := ⟨_,by simp only [resolve,hcal,hty]; rw [show c.args.map a.eval = #[a.eval x,a.eval y] by rw [hargs]; simp]; rfl⟩
       obtain ⟨i',u,hi',hu2,rfl,_⟩ := zero_run hz
       rw [hi] at hi'; injection hi' with hi'; subst hi'
       have hus:u.cells.size = i.size := by simpa using c4
       have gx := g x
       have gy := g y
       simp only [astep] at hst
       split at hst
       ·cases hst
       ·rename_i new hnew
        split at hst
        ·rename_i k' hx'
         split at hst
         ·rename_i b hb
          split at hst
          ·rename_i hby
           simp only [sJ,pJ] at hst
           obtain ⟨rfl,rfl⟩ := hst
           rw [hx'] at gx
           refine build _ hres (give_app_lit (ty := o.type) h hu hi hu2 c3 hus hb gx gy hnew hby) ?_
           simp only [builtin]
          ·cases hst
         ·cases hst
        ·rename_i k' e0 es0 hx'
         split at hst
         ·rename_i b hb
          split at hst
          ·rename_i hby
           obtain ⟨rfl,d2,d3⟩ := hby
           simp only [sJ,pJ] at hst
           obtain ⟨rfl,rfl⟩ := hst
           rw [hx'] at gx
           refine build _ hres (give_app_full (ty := o.type) h hu hi hu2 c3 hus hb gx gy hnew d2 d3) ?_
           simp only [builtin]
          ·cases hst
         ·cases hst
        ·rename_i s' ver n k' hx'
         split at hst
         ·rename_i b hb
          split at hst
          ·rename_i hcond2
           obtain ⟨rfl,d2,rfl,d4,d5⟩ := hcond2
           simp only [sJ,pJ] at hst
           obtain ⟨rfl,rfl⟩ := hst
           rw [hx'] at gx
           refine build _ hres (give_app_ref (ty := o.type) h hu hi hu2 c3 hus hb d2 gx d4 gy hnew d5) ?_
           simp only [builtin]
          ·cases hst
         ·cases hst
        ·cases hst
      ·cases hc
     ·cases hc
    ·cases hc
   ·cases hc
  -- copy
  ·rename_i hcal
   split at hc
   ·rename_i t t' x y htys hx
    have hargs:c.args = #[x,y] := by apply Array.ext'; simpa using hx
    split at hc
    ·rename_i e e' hu hu'
     cases hk:sz? P e with
     | none => simp [hk] at hc
     | some k =>
      simp only [hk,Option.map_some,sJ] at hc; subst hc
      have hty:c.argTypes = #[t,t'] := by apply Array.ext'; simpa using htys
      obtain ⟨css,hres⟩ : ∃ css,(resolve a.eval c o.type).run P w = .ok { target := .builtin .copy #[t,t'] o.type css,args := #[a.eval x,a.eval y] } w := ⟨_,by simp only [resolve,hcal,hty]; rw [show c.args.map a.eval = #[a.eval x,a.eval y] by rw [hargs]; simp]; rfl⟩
      have gx := g x
      have gy := g y
      simp only [astep] at hst
      split at hst
      ·rename_i new t0 ver o0 n k' hnew hx'
       split at hst
       ·rename_i b hb
        split at hst
        ·rename_i hcond
         obtain ⟨rfl,d2,rfl,d4⟩ := hcond
         simp only [sJ,pJ] at hst
         obtain ⟨rfl,rfl⟩ := hst
         rw [hx'] at gx
         refine build _ hres (give_cpy (t' := t') (ty := o.type) h hu hk hb d2 gx d4 gy hnew) ?_
         simp only [builtin]
        ·cases hst
       ·cases hst
      ·cases hst
    ·cases hc
   ·cases hc
  ·simp only [sJ] at hc; subst hc
   simp only [badOp,astep,hγi] at hst
   cases hst
 ·simp only [sJ] at hc; subst hc
  simp only [badOp,astep,hγi] at hst
  cases hst
end
end Go.Mx
