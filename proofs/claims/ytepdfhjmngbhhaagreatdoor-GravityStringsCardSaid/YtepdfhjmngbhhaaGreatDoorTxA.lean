/- Layers of the walk: abstract values, operations, calls, loops, and what they do. No condition. -/
import Derived.Test.YtepdfhjmngbhhaaGreatDoorMxY
namespace Go.Mx
variable [Laid]

inductive Ty where
 | int (k:IntKind)
 | bool
 | str
 | sl (e:Ty)
 | pr (a b:Ty)
 | un
 | err

abbrev Ty.den:Ty→Type
 | .int _ => Int
 | .bool => Bool
 | .str => ByteArray
 | .sl e => List e.den
 | .pr a b => a.den×b.den
 | .un => Unit
 | .err => Bool

def Ty.n:Ty→Nat
 | .pr a b => a.n + b.n
 | .un => 0
 | _ => 1

def Ty.dflt:(t:Ty)→t.den
 | .int _ => (0:Int)
 | .bool => false
 | .str => ⟨#[]⟩
 | .sl _ => []
 | .pr a b => (a.dflt,b.dflt)
 | .un => ()
 | .err => false

def Ty.enc:(t:Ty)→t.den→List Pv
 | .int k,n => [.int k n]
 | .bool,b => [.bool b]
 | .str,s => [.str s]
 | .sl e,l => [.sl e.n (List.map e.enc l) false]
 | .pr a b,x => a.enc x.1 ++ b.enc x.2
 | .un,_ => []
 | .err,b => [.ifc b]

omit [Laid] in
theorem Ty.enc_len:∀ (t:Ty) (x:t.den),(t.enc x).length = t.n
 | .int _,_ => rfl
 | .bool,_ => rfl
 | .str,_ => rfl
 | .sl _,_ => rfl
 | .pr a b,x => by simp only [Ty.enc,List.length_append,Ty.enc_len a,Ty.enc_len b,Ty.n]
 | .un,_ => rfl
 | .err,_ => rfl

def Ty.beq:Ty→Ty→Bool
 | .int k,.int k' => decide (k = k')
 | .bool,.bool => true
 | .str,.str => true
 | .sl e,.sl e' => e.beq e'
 | .pr a b,.pr a' b' => a.beq a' && b.beq b'
 | .un,.un => true
 | .err,.err => true
 | _,_ => false
omit [Laid] in
theorem Ty.beq_eq:∀ {a b:Ty},a.beq b = true→a = b
 | .int k,.int k',h => by simp only [Ty.beq,decide_eq_true_eq] at h; rw [h]
 | .bool,.bool,_ => rfl
 | .str,.str,_ => rfl
 | .sl e,.sl e',h => by rw [Ty.beq_eq (a := e) (b := e') h]
 | .pr a b,.pr a' b',h => by
  simp only [Ty.beq,Bool.and_eq_true] at h
  rw [Ty.beq_eq h.1,Ty.beq_eq h.2]
 | .un,.un,_ => rfl
 | .err,.err,_ => rfl
 | .int _,.bool,h | .int _,.str,h | .int _,.sl _,h | .int _,.pr _ _,h | .int _,.un,h
 | .bool,.int _,h | .bool,.str,h | .bool,.sl _,h | .bool,.pr _ _,h | .bool,.un,h
 | .str,.int _,h | .str,.bool,h | .str,.sl _,h | .str,.pr _ _,h | .str,.un,h
 | .sl _,.int _,h | .sl _,.bool,h | .sl _,.str,h | .sl _,.pr _ _,h | .sl _,.un,h
 | .pr _ _,.int _,h | .pr _ _,.bool,h | .pr _ _,.str,h | .pr _ _,.sl _,h | .pr _ _,.un,h
 | .un,.int _,h | .un,.bool,h | .un,.str,h | .un,.sl _,h | .un,.pr _ _,h
 | .err,.int _,h | .err,.bool,h | .err,.str,h | .err,.sl _,h | .err,.pr _ _,h | .err,.un,h
 | .int _,.err,h | .bool,.err,h | .str,.err,h | .sl _,.err,h | .pr _ _,.err,h | .un,.err,h => by cases h

def castL (a b:Ty) (l:List a.den):Option (List b.den) :=
 match h:a.beq b with
 | true => some (Ty.beq_eq h ▸ l)
 | false => none

omit [Laid] in
theorem castL_eq {a b:Ty} {l:List a.den} {r:List b.den} (h:castL a b l = some r):∃ e:a = b,r = e ▸ l := by
 unfold castL at h
 split at h
 ·rename_i hb
  exact ⟨Ty.beq_eq hb,by simpa using h.symm⟩
 ·cases h

inductive PvLe:Pv→Pv→Prop
 | int (k n):PvLe (.int k n) (.int k n)
 | bool (b):PvLe (.bool b) (.bool b)
 | str (s):PvLe (.str s) (.str s)
 | ifc (b):PvLe (.ifc b) (.ifc b)
 | sl (k k' es es' f f') (hk:es = [] ∨ k = k') (hn:es'.length = es.length) (hf:f' = true→f = true)
   (hl:∀ (i:Nat) (e e' : List Pv),es[i]? = some e→es'[i]? = some e'→e'.length = e.length)
   (h:∀ (i:Nat) (e e' : List Pv) (j:Nat) (x x' : Pv),es[i]? = some e→es'[i]? = some e'→e[j]? = some x→e'[j]? = some x'→PvLe x x'):PvLe (.sl k es f) (.sl k' es' f')
 | fn (f cap cap') (hb:@LE.le Nat _ 1000000000 f→∀ (i:Nat) (e e' : List Pv),cap[i]? = some e→cap'[i]? = some e'→e'.length = e.length) (hn:cap'.length = cap.length) (hl:∀ (i:Nat) (e e' : List Pv),cap[i]? = some e→cap'[i]? = some e'→e'.length≤e.length)
   (h:∀ (i:Nat) (e e' : List Pv) (j:Nat) (x x' : Pv),cap[i]? = some e→cap'[i]? = some e'→e[j]? = some x→e'[j]? = some x'→PvLe x x'):PvLe (.fn f cap) (.fn f cap')

omit [Laid] in
theorem get_of_len {α β:Type} {l:List α} {r:List β} (h:r.length = l.length) {i:Nat} {x:β} (hx:r[i]? = some x):∃ y,l[i]? = some y := by
 have:i < l.length := by rw [← h]; exact (List.getElem?_eq_some_iff.1 hx).1
 exact ⟨l[i],List.getElem?_eq_getElem this⟩
omit [Laid] in
theorem get_of_le {α β:Type} {l:List α} {r:List β} (h:r.length≤l.length) {i:Nat} {x:β} (hx:r[i]? = some x):∃ y,l[i]? = some y := by
 have:i < l.length := Nat.lt_of_lt_of_le (List.getElem?_eq_some_iff.1 hx).1 h
 exact ⟨l[i],List.getElem?_eq_getElem this⟩

omit [Laid] in
theorem PvLe.rel {S:Nat→Prop} {w:World} {x y:Pv} (hle:PvLe x y):∀ {v:Value},PRel S w x v→PRel S w y v := by
 induction hle with
 | int => exact fun h => h
 | bool => exact fun h => h
 | str => exact fun h => h
 | ifc => exact fun h => h
 | sl k k' es es' f f' hk hn hf hl _ ih =>
  intro v h
  cases h with
  | slnil =>
   have:es' = [] := List.length_eq_zero_iff.1 (by simpa using hn)
   subst this; exact .slnil _ _
  | sl0 _ _ a cap hc =>
   have:es' = [] := List.length_eq_zero_iff.1 (by simpa using hn)
   subst this; exact .sl0 _ _ a cap (fun e => hc (hf e))
  | sl _ _ _ b o n cap cell hs hn' h0 hc hf' hk' h1 h2 =>
   have hne:es ≠ [] := by intro e; subst e; simp at hn'; omega
   have hkk:k = k' := hk.resolve_left hne
   subst hkk
   refine .sl _ _ _ b o n cap cell hs (hn.trans hn') h0 hc (fun e => hf' (hf e)) ?_ ?_ ?_
   ·intro e' he'
    obtain ⟨i,hi⟩ := List.mem_iff_getElem?.1 he'
    obtain ⟨e,he⟩ := get_of_len hn hi
    rw [hl i e e' he hi]; exact hk' e (List.mem_of_getElem? he)
   ·intro i j e' x' he' hx'
    obtain ⟨e,he⟩ := get_of_len hn he'
    obtain ⟨x,hx⟩ := get_of_len (hl i e e' he he') hx'
    exact h1 i j e x he hx
   ·intro i j e' x' he' hx'
    obtain ⟨e,he⟩ := get_of_len hn he'
    obtain ⟨x,hx⟩ := get_of_len (hl i e e' he he') hx'
    exact ih i e e' j x x' he he' hx hx' (h2 i j e x he hx)
 | fn f cap cap' hb hn hl _ ih =>
  intro v h
  cases h with
  | bnd _ f0 cs arr hg hn' h' =>
   match cap',hn with
   | [e'],_ =>
    refine .bnd f f0 e' arr hg (hn'.trans (hb (by rw [bm_is hg]; exact Nat.le_add_left _ _) 0 cs e' rfl rfl).symm) fun j x' hx' => ?_
    obtain ⟨x,hx⟩ := get_of_len (hb (by rw [bm_is hg]; exact Nat.le_add_left _ _) 0 cs e' rfl rfl) hx'
    exact ih 0 cs e' j x x' rfl rfl hx hx' (h' j x hx)
  | fn _ _ caps hf b o cell hn' hs hp h1 h2 =>
   refine .fn _ _ caps hf b o cell (hn'.trans hn.symm) ?_ ?_ ?_ ?_
   ·intro i e' he'; obtain ⟨e,he⟩ := get_of_len hn he'; exact hs i e he
   ·intro i e' he'; obtain ⟨e,he⟩ := get_of_len hn he'; exact hp i e he
   ·intro i j e' x' he' hx'
    obtain ⟨e,he⟩ := get_of_len hn he'
    obtain ⟨x,hx⟩ := get_of_le (hl i e e' he he') hx'
    exact h1 i j e x he hx
   ·intro i j e' x' he' hx'
    obtain ⟨e,he⟩ := get_of_len hn he'
    obtain ⟨x,hx⟩ := get_of_le (hl i e e' he he') hx'
    exact ih i e e' j x x' he he' hx hx' (h2 i j e x he hx)

def LeL (e e' : List Pv):Prop := e'.length = e.length∧∀ (j:Nat) (x x' : Pv),e[j]? = some x→e'[j]? = some x'→PvLe x x'
def LeLL (es es' : List (List Pv)):Prop := es'.length = es.length∧∀ (i:Nat) (e e' : List Pv),es[i]? = some e→es'[i]? = some e'→LeL e e'
omit [Laid] in
theorem PvLe.sl' {k k' : Nat} {es es' : List (List Pv)} {f f' : Bool} (hk:es = [] ∨ k = k') (hf:f' = true→f = true) (h:LeLL es es'):PvLe (.sl k es f) (.sl k' es' f') :=
 .sl k k' es es' f f' hk h.1 hf (fun i e e' h1 h2 => (h.2 i e e' h1 h2).1) (fun i e e' j x x' h1 h2 h3 h4 => (h.2 i e e' h1 h2).2 j x x' h3 h4)
omit [Laid] in
theorem PvLe.inv_sl {k' : Nat} {es' : List (List Pv)} {f' : Bool} {p:Pv} (h:PvLe p (.sl k' es' f')):∃ k es f,p = .sl k es f∧(es = [] ∨ k = k')∧(f' = true→f = true)∧LeLL es es' := by
 cases h with
 | sl k _ es _ f _ hk hn hf hl h => exact ⟨k,es,f,rfl,hk,hf,hn,fun i e e' h1 h2 => ⟨hl i e e' h1 h2,fun j x x' h3 h4 => h i e e' j x x' h1 h2 h3 h4⟩⟩

inductive TV where
 | i (k:IntKind) (n:Int)
 | b (x:Bool)
 | s (x:ByteArray)
 | e (x:Bool)
 | sl (t:Ty) (l:List t.den)
 /-- a slice that no more fits in -/
 | fs (t:Ty) (l:List t.den)
 | nil
 | fn (f:FuncId) (caps:List (Sigma Ty.den))
 | agg (cs:List TV)
 | tup (vs:List TV)
 /-- offset,and places of arrays: index,cells,length -/
 | ptr (s o:Nat) (ds:List (Int×Nat×Nat))
 /-- the element of a growing slice,and a cell of it -/
 | pd (s:Nat) (t:Ty) (i:Int) (j:Nat)
 | ipt (cs:List TV)
 | own (s:Nat) (t:Ty)
 /-- so many cells of a block as a slice -/
 | vc (s o n k:Nat)
 /-- elements of a growing slice as a slice -/
 | vd (s:Nat) (t:Ty) (lo n:Int)
 | clo (f:FuncId) (caps:List TV)
 | opt (g:Nat) (b want:Bool) (v:TV)
 | und
 | no
 | nb (n:Nat)

def can:TV→Option Pv
 | .i k n => some (.int k n)
 | .b x => some (.bool x)
 | .s x => some (.str x)
 | .e x => some (.ifc x)
 | .sl t l => some (.sl t.n (List.map t.enc l) false)
 | .fs t l => some (.sl t.n (List.map t.enc l) true)
 | .nil => some (.sl 0 [] true)
 | .fn f caps => some (.fn f (caps.map fun c => c.1.enc c.2))
 | _ => none

def PT (c:TV) (p:Pv):Prop := ∃ q,can c = some q∧PvLe p q

structure Env where
 vr:Nat→Nat
 ln:Nat→Nat

def dsOff:List (Int×Nat×Nat)→Nat
 | [] => 0
 | (i,k,_) :: r => i.toNat * k + dsOff r
def dsOk:List (Int×Nat×Nat)→Prop
 | [] => True
 | (i,_,len) :: r => (0≤i∧i < (len:Int))∧dsOk r

inductive TRel (E:Env):TV→V→Prop
 | pure (c p) (h:PT c p):TRel E c (.p p)
 | agg (cs vs) (hn:vs.length = cs.length) (h:∀ (i:Nat) (c:TV) (v:V),cs[i]? = some c→vs[i]? = some v→TRel E c v):TRel E (.agg cs) (.agg vs)
 | tup (cs vs) (hn:vs.length = cs.length) (h:∀ (i:Nat) (c:TV) (v:V),cs[i]? = some c→vs[i]? = some v→TRel E c v):TRel E (.tup cs) (.tup vs)
 | ptr (s o ds) (h:dsOk ds):TRel E (.ptr s o ds) (.ptr s (E.vr s) (o + dsOff ds))
 | pd (s t i j) (h0:0≤i) (h1:i < (E.ln s:Int)):TRel E (.pd s t i j) (.ptr s (E.vr s) (i.toNat * t.n + j))
 | ipt (cs ps) (hn:cs.length≤ps.length) (h:∀ (i:Nat) (c:TV) (p:Pv),cs[i]? = some c→ps[i]? = some p→PT c p):TRel E (.ipt cs) (.ipt ps)
 | own (s t):TRel E (.own s t) (.ref s (E.vr s) 0 (E.ln s) t.n)
 | vc (s o n k):TRel E (.vc s o n k) (.ref s (E.vr s) o n k)
 | vd (s t lo n) (h0:0≤lo) (h1:0≤n) (h2:lo + n≤(E.ln s:Int)):TRel E (.vd s t lo n) (.ref s (E.vr s) (lo.toNat * t.n) n.toNat t.n)
 | clo (f cs vs) (hn:vs.length = cs.length) (h:∀ (i:Nat) (c:TV) (v:V),cs[i]? = some c→vs[i]? = some v→TRel E c v):TRel E (.clo f cs) (.clo f vs)
 | opt (g b want c v) (h:b = want→TRel E c v) (h2:b ≠ want→v = .no):TRel E (.opt g b want c) v
 | und (v):TRel E .und v
 | no:TRel E .no .no
 | nb (n):TRel E (.nb n) (.ub n)

section
variable {E:Env}
omit [Laid] in
theorem PT.i {k:IntKind} {n:Int}:PT (.i k n) (.int k n) := ⟨_,rfl,.int k n⟩
omit [Laid] in
theorem PT.b {x:Bool}:PT (.b x) (.bool x) := ⟨_,rfl,.bool x⟩
omit [Laid] in
theorem PT.e {x:Bool}:PT (.e x) (.ifc x) := ⟨_,rfl,.ifc x⟩
omit [Laid] in
theorem PT.inv_e {x:Bool} {p:Pv} (h:PT (.e x) p):p = .ifc x := by
 obtain ⟨q,h1,h2⟩ := h
 simp only [can,sJ] at h1; subst h1
 cases h2; rfl
omit [Laid] in
theorem PT.inv_i {k:IntKind} {n:Int} {p:Pv} (h:PT (.i k n) p):p = .int k n := by
 obtain ⟨q,h1,h2⟩ := h
 simp only [can,sJ] at h1; subst h1
 cases h2; rfl
omit [Laid] in
theorem PT.inv_b {x:Bool} {p:Pv} (h:PT (.b x) p):p = .bool x := by
 obtain ⟨q,h1,h2⟩ := h
 simp only [can,sJ] at h1; subst h1
 cases h2; rfl
omit [Laid] in
theorem PT.inv_s {x:ByteArray} {p:Pv} (h:PT (.s x) p):p = .str x := by
 obtain ⟨q,h1,h2⟩ := h
 simp only [can,sJ] at h1; subst h1
 cases h2; rfl
omit [Laid] in
theorem PT.inv_sl {t:Ty} {l:List t.den} {p:Pv} (h:PT (.sl t l) p):∃ k es f,p = .sl k es f∧(es = [] ∨ k = t.n)∧LeLL es (List.map t.enc l) := by
 obtain ⟨q,h1,h2⟩ := h
 simp only [can,sJ] at h1; subst h1
 obtain ⟨k,es,f,h1,h2,_,h3⟩ := h2.inv_sl
 exact ⟨k,es,f,h1,h2,h3⟩
omit [Laid] in
theorem PT.inv_fs {t:Ty} {l:List t.den} {p:Pv} (h:PT (.fs t l) p):∃ k es,p = .sl k es true∧(es = [] ∨ k = t.n)∧LeLL es (List.map t.enc l) := by
 obtain ⟨q,h1,h2⟩ := h
 simp only [can,sJ] at h1; subst h1
 obtain ⟨k,es,f,h1,h2,hf,h3⟩ := h2.inv_sl
 rw [hf rfl] at h1
 exact ⟨k,es,h1,h2,h3⟩
omit [Laid] in
theorem PT.fs_sl {t:Ty} {l:List t.den} {p:Pv} (h:PT (.fs t l) p):PT (.sl t l) p := by
 obtain ⟨k,es,rfl,h1,h2⟩ := h.inv_fs
 exact ⟨_,rfl,.sl' h1 (fun e => by cases e) h2⟩
omit [Laid] in
theorem PT.inv_nil {p:Pv} (h:PT .nil p):∃ k,p = .sl k [] true := by
 obtain ⟨q,h1,h2⟩ := h
 simp only [can,sJ] at h1; subst h1
 obtain ⟨k,es,f,h1,_,h2,h3⟩ := h2.inv_sl
 have:es = [] := List.length_eq_zero_iff.1 (by simpa using h3.1.symm)
 subst this
 have := h2 rfl
 subst this
 exact ⟨k,h1⟩

omit [Laid] in
theorem TRel.inv_i {k:IntKind} {n:Int} {v:V} (h:TRel E (.i k n) v):v = .p (.int k n) := by
 cases h with | pure _ p h => rw [h.inv_i]
omit [Laid] in
theorem TRel.inv_b {x:Bool} {v:V} (h:TRel E (.b x) v):v = .p (.bool x) := by
 cases h with | pure _ p h => rw [h.inv_b]
omit [Laid] in
theorem TRel.inv_e {x:Bool} {v:V} (h:TRel E (.e x) v):v = .p (.ifc x) := by
 cases h with | pure _ p h => rw [h.inv_e]
omit [Laid] in
theorem TRel.inv_s {x:ByteArray} {v:V} (h:TRel E (.s x) v):v = .p (.str x) := by
 cases h with | pure _ p h => rw [h.inv_s]
omit [Laid] in
theorem TRel.inv_sl {t:Ty} {l:List t.den} {v:V} (h:TRel E (.sl t l) v):∃ k es f,v = .p (.sl k es f)∧(es = [] ∨ k = t.n)∧LeLL es (List.map t.enc l) := by
 cases h with | pure _ p h => obtain ⟨k,es,f,rfl,h1,h2⟩ := h.inv_sl; exact ⟨k,es,f,rfl,h1,h2⟩
omit [Laid] in
theorem TRel.inv_nil {v:V} (h:TRel E .nil v):∃ k,v = .p (.sl k [] true) := by
 cases h with | pure _ p h => obtain ⟨k,rfl⟩ := h.inv_nil; exact ⟨k,rfl⟩
omit [Laid] in
theorem TRel.inv_agg {cs:List TV} {v:V} (h:TRel E (.agg cs) v):∃ vs,v = .agg vs∧vs.length = cs.length∧∀ (i:Nat) (c:TV) (v:V),cs[i]? = some c→vs[i]? = some v→TRel E c v := by
 cases h with
 | pure _ p h => obtain ⟨q,h,_⟩ := h; cases h
 | agg _ vs hn h => exact ⟨vs,rfl,hn,h⟩
omit [Laid] in
theorem TRel.inv_tup {cs:List TV} {v:V} (h:TRel E (.tup cs) v):∃ vs,v = .tup vs∧vs.length = cs.length∧∀ (i:Nat) (c:TV) (v:V),cs[i]? = some c→vs[i]? = some v→TRel E c v := by
 cases h with
 | pure _ p h => obtain ⟨q,h,_⟩ := h; cases h
 | tup _ vs hn h => exact ⟨vs,rfl,hn,h⟩
omit [Laid] in
theorem TRel.inv_ptr {s o:Nat} {ds:List (Int×Nat×Nat)} {v:V} (h:TRel E (.ptr s o ds) v):dsOk ds∧v = .ptr s (E.vr s) (o + dsOff ds) := by
 cases h with
 | pure _ p h => obtain ⟨q,h,_⟩ := h; cases h
 | ptr _ _ _ h => exact ⟨h,rfl⟩
omit [Laid] in
theorem TRel.inv_pd {s:Nat} {t:Ty} {i:Int} {j:Nat} {v:V} (h:TRel E (.pd s t i j) v):0≤i∧i < (E.ln s:Int)∧v = .ptr s (E.vr s) (i.toNat * t.n + j) := by
 cases h with
 | pure _ p h => obtain ⟨q,h,_⟩ := h; cases h
 | pd _ _ _ _ h0 h1 => exact ⟨h0,h1,rfl⟩
omit [Laid] in
theorem TRel.inv_ipt {cs:List TV} {v:V} (h:TRel E (.ipt cs) v):∃ ps,v = .ipt ps∧cs.length≤ps.length∧∀ (i:Nat) (c:TV) (p:Pv),cs[i]? = some c→ps[i]? = some p→PT c p := by
 cases h with
 | pure _ p h => obtain ⟨q,h,_⟩ := h; cases h
 | ipt _ ps hn h => exact ⟨ps,rfl,hn,h⟩
omit [Laid] in
theorem TRel.inv_own {s:Nat} {t:Ty} {v:V} (h:TRel E (.own s t) v):v = .ref s (E.vr s) 0 (E.ln s) t.n := by
 cases h with
 | pure _ p h => obtain ⟨q,h,_⟩ := h; cases h
 | own => rfl
omit [Laid] in
theorem TRel.inv_vc {s o n k:Nat} {v:V} (h:TRel E (.vc s o n k) v):v = .ref s (E.vr s) o n k := by
 cases h with
 | pure _ p h => obtain ⟨q,h,_⟩ := h; cases h
 | vc => rfl
omit [Laid] in
theorem TRel.inv_vd {s:Nat} {t:Ty} {lo n:Int} {v:V} (h:TRel E (.vd s t lo n) v):0≤lo∧0≤n∧lo + n≤(E.ln s:Int)∧v = .ref s (E.vr s) (lo.toNat * t.n) n.toNat t.n := by
 cases h with
 | pure _ p h => obtain ⟨q,h,_⟩ := h; cases h
 | vd _ _ _ _ h0 h1 h2 => exact ⟨h0,h1,h2,rfl⟩
omit [Laid] in
theorem TRel.inv_clo {f:FuncId} {cs:List TV} {v:V} (h:TRel E (.clo f cs) v):∃ vs,v = .clo f vs∧vs.length = cs.length∧∀ (i:Nat) (c:TV) (v:V),cs[i]? = some c→vs[i]? = some v→TRel E c v := by
 cases h with
 | pure _ p h => obtain ⟨q,h,_⟩ := h; cases h
 | clo _ _ vs hn h => exact ⟨vs,rfl,hn,h⟩
omit [Laid] in
theorem TRel.inv_fn {f:FuncId} {caps:List (Sigma Ty.den)} {v:V} (h:TRel E (.fn f caps) v):∃ p,v = .p p∧PvLe p (.fn f (caps.map fun c => c.1.enc c.2)) := by
 cases h with
 | pure _ p h => obtain ⟨q,h1,h2⟩ := h; simp only [can,sJ] at h1; subst h1; exact ⟨p,rfl,h2⟩
omit [Laid] in
theorem TRel.inv_opt {g:Nat} {b want:Bool} {c:TV} {v:V} (h:TRel E (.opt g b want c) v):b = want→TRel E c v := by
 cases h with
 | pure _ p h => obtain ⟨q,h,_⟩ := h; cases h
 | opt _ _ _ _ _ h _ => exact h
omit [Laid] in
theorem TRel.inv_opt2 {g:Nat} {b want:Bool} {c:TV} {v:V} (h:TRel E (.opt g b want c) v):b ≠ want→v = .no := by
 cases h with
 | pure _ p h => obtain ⟨q,h,_⟩ := h; cases h
 | opt _ _ _ _ _ _ h => exact h
omit [Laid] in
theorem TRel.ofCan {c:TV} {q p:Pv} (h:can c = some q) (hl:PvLe p q):TRel E c (.p p) := .pure c p ⟨q,h,hl⟩
omit [Laid] in
theorem TRel.int {k:IntKind} {n:Int}:TRel E (.i k n) (.p (.int k n)) := .pure _ _ .i
omit [Laid] in
theorem TRel.bool {x:Bool}:TRel E (.b x) (.p (.bool x)) := .pure _ _ .b

def explode:(t:Ty)→t.den→List TV
 | .int k,n => [.i k n]
 | .bool,x => [.b x]
 | .str,x => [.s x]
 | .sl e,l => [.sl e l]
 | .pr a b,x => explode a x.1 ++ explode b x.2
 | .un,_ => []
 | .err,x => [.e x]

omit [Laid] in
theorem explode_can:∀ (t:Ty) (x:t.den),(explode t x).map can = (t.enc x).map some
 | .int _,_ => rfl
 | .bool,_ => rfl
 | .str,_ => rfl
 | .sl _,_ => rfl
 | .pr a b,x => by simp only [explode,Ty.enc,List.map_append,explode_can a,explode_can b]
 | .un,_ => rfl
 | .err,_ => rfl
omit [Laid] in
theorem explode_len (t:Ty) (x:t.den):(explode t x).length = t.n := by
 have := congrArg List.length (explode_can t x)
 simpa [Ty.enc_len] using this
omit [Laid] in
theorem explode_pt {t:Ty} {x:t.den} {e:List Pv} (h:LeL e (t.enc x)) {j:Nat} {c:TV} {p:Pv} (hc:(explode t x)[j]? = some c) (hp:e[j]? = some p):PT c p := by
 have := congrArg (·[j]?) (explode_can t x)
 simp only [List.getElem?_map,hc,Option.map_some] at this
 cases hq:(t.enc x)[j]? with
 | none => rw [hq] at this; cases this
 | some q =>
  rw [hq] at this
  simp only [Option.map_some,sJ] at this
  exact ⟨q,this,h.2 j p q hp hq⟩

inductive TC where
 | dead
 | cells (live:Bool) (cs:List TV)
 | dyn (live:Bool) (t:Ty) (l:List t.den)

def implSl (look:Nat→TC) (e:Ty) (impl:List TV→Option (e.den×List TV)):TV→Option (List e.den)
 | .sl e' l => castL e' e l
 | .nil => some []
 | .own s t' => match look s with
  | .dyn _ t l => match decide (t'.n = t.n) with
   | true => castL t e l
   | false => none
  | _ => none
 | .vc s o n k => match look s with
  | .cells _ cs => match decide (k = e.n∧o + n * k≤cs.length) with
   | true => optAll (fun c => match impl c with
    | some (x,[]) => some x
    | _ => none) (chunk k n ((cs.drop o).take (n * k)))
   | false => none
  | _ => none
 | .vd s t' lo n => match look s with
  | .dyn _ t l => match decide (t'.n = t.n),castL t e l with
   | true,some l => some ((l.drop lo.toNat).take n.toNat)
   | _,_ => none
  | _ => none
 | _ => none

def deadC:Nat→TC := fun _ => .dead
def implode:(t:Ty)→(Nat→TC)→List TV→Option (t.den×List TV)
 | .int k,_,.i k' n :: r => match decide (k' = k) with
  | true => some (n,r)
  | false => none
 | .bool,_,.b x :: r => some (x,r)
 | .str,_,.s x :: r => some (x,r)
 | .err,_,.e x :: r => some (x,r)
 | .sl e,look,c :: r => match implSl look e (implode e deadC) c with
  | some l => some (l,r)
  | none => none
 | .pr a b,look,cs => match implode a look cs with
  | some (x,r) => match implode b look r with
   | some (y,r') => some ((x,y),r')
   | none => none
  | none => none
 | .un,_,cs => some ((),cs)
 | _,_,_ => none
end
end Go.Mx
