/- Layers of the walk: abstract values, operations, calls, loops, and what they do. No condition. -/
import Derived.Test.YtepdfhjmngbhhaaGreatDoorMxP
import Derived.ProofKit
import Derived.OpenShut
namespace Go.Mx
variable [Laid]
open Go.RowKit

inductive Sh where
 | int (k:IntKind)
 | bool
 | str
 | sl (e:List Sh)
 | nev

inductive Wt:Sh→Pv→Prop
 | int (k n) (h:(Lit.int k n).wf = true):Wt (.int k) (.int k n)
 | bool (b):Wt .bool (.bool b)
 | str (s) (h:s.size≤maxLen):Wt .str (.str s)
 | sl (l es) (h:∀ e∈es,e.length = l.length) (hn:es.length≤maxLen) (h2:∀ e∈es,∀ (i:Nat) (s:Sh) (p:Pv),l[i]? = some s→e[i]? = some p→Wt s p):Wt (.sl l) (.sl l.length es false)

def WtL (l:List Sh) (vs:List Pv):Prop := vs.length = l.length∧∀ (i:Nat) (s:Sh) (p:Pv),l[i]? = some s→vs[i]? = some p→Wt s p

def shFs (P:Program) (r:TypeId→Option (List Sh)):List Field→Nat→Option (List Sh)
 | [],_ => some []
 | x :: fs,o => match r x.type with
  | some l => if x.offset = o∧l.length = P.cellsOf x.type then (shFs P r fs (o + l.length)).map (l ++ ·) else none
  | none => none

def shOf (P:Program):Nat→TypeId→Option (List Sh)
 | 0,_ => none
 | f + 1,t => match P.underlying t with
  | some .bool => some [.bool]
  | some (.int k) => some [.int k]
  | some .string => some [.str]
  | some (.slice e) => match shOf P f e with
   | some l => if l.length = P.cellsOf e∧0 < l.length then some [.sl l] else none
   | none => none
  | some (.struct fs) => shFs P (shOf P f) fs.toList 0
  | some (.array n e) => match shOf P f e with
   | some l => if l.length = P.cellsOf e then some (List.replicate n l).flatten else none
   | none => none
  | _ => none

omit [Laid] in
theorem WtL.app {l1 l2:List Sh} {v1 v2:List Pv} (h1:WtL l1 v1) (h2:WtL l2 v2):WtL (l1 ++ l2) (v1 ++ v2) := by
 refine ⟨by simp [h1.1,h2.1],fun i s p hs hp => ?_⟩
 rw [List.getElem?_append] at hs hp
 rw [h1.1] at hp
 split at hs
 ·rename_i hlt; rw [if_pos hlt] at hp; exact h1.2 i s p hs hp
 ·rename_i hlt; rw [if_neg hlt] at hp; exact h2.2 _ s p hs hp

omit [Laid] in
theorem mapM_range_get {β:Type} {f:Nat→Option β} {n:Nat} {r:List β} (h:(List.range n).mapM f = some r):r.length = n∧∀ i,i < n→f i = r[i]? := by
 have key:∀ (l:List Nat) (r:List β),l.mapM f = some r→r.length = l.length∧∀ (i x:Nat),l[i]? = some x→f x = r[i]? := by
  intro l
  induction l with
  | nil => intro r h; simp at h; subst h; simp
  | cons a l ih =>
   intro r h
   rw [List.mapM_cons] at h
   cases ha:f a with
   | none => simp [ha] at h
   | some y =>
    cases hl:l.mapM f with
    | none => simp [ha,hl] at h
    | some ys =>
     simp [ha,hl] at h
     subst h
     obtain ⟨h1,h2⟩ := ih ys hl
     refine ⟨by simp [h1],fun i x hx => ?_⟩
     match i with
     | 0 => simp at hx; subst hx; simpa using ha
     | i + 1 => simpa using h2 i x (by simpa using hx)
 obtain ⟨h1,h2⟩ := key _ _ h
 exact ⟨by simpa using h1,fun i hi => h2 i i (List.getElem?_range hi)⟩

section
variable {H:Type} {enc:TypeId×Value→H} {P:Program} {w:World} {sp:Nat→Bool} {held:Bool}

def CellsR (w:World) (vs:List Pv) (cs:List Value):Prop := ∀ (i:Nat) (p:Pv),vs[i]? = some p→PRel (fun b => b < w.heap.size) w p ((cs[i]?).getD undef)

omit [Laid] in
theorem cells_take {cs:List Value} {o n j:Nat} (h:j < n):(((cs.drop o).take n)[j]?).getD undef = (cs[o + j]?).getD undef := by
 rw [List.getElem?_take,if_pos h,List.getElem?_drop]

omit [Laid] in
theorem fs_rel {r:TypeId→Option (List Sh)} {cs:List Value}
  (ih:∀ t l,r t = some l→∀ fuel cs x,DataW.trod enc P w 0 sp held fuel t cs = some x→∃ vs,WtL l vs∧CellsR w vs cs) :
  ∀ (fs:List Field) (o:Nat) (l:List Sh),shFs P r fs o = some l→(∀ f∈fs,∃ fuel x,DataW.trod enc P w 0 sp held fuel f.type ((cs.drop f.offset).take (P.cellsOf f.type)) = some x)→∃ vs,WtL l vs∧CellsR w vs (cs.drop o)
 | [],o,l,h,_ => by
  simp only [shFs,sJ] at h; subst h
  exact ⟨[],⟨rfl,by simp⟩,by intro i p h; simp at h⟩
 | f :: fs,o,l,h,hf => by
  simp only [shFs] at h
  split at h
  ·rename_i l1 hl1
   split at h
   ·rename_i hc
    obtain ⟨rfl,hlen⟩ := hc
    simp only [Option.map_eq_some_iff] at h
    obtain ⟨l2,h2,rfl⟩ := h
    obtain ⟨fuel,x,hx⟩ := hf f (by simp)
    obtain ⟨v1,w1,c1⟩ := ih _ _ hl1 _ _ _ hx
    obtain ⟨v2,w2,c2⟩ := fs_rel ih fs _ l2 h2 (fun g hg => hf g (by simp [hg]))
    refine ⟨v1 ++ v2,w1.app w2,fun i p hp => ?_⟩
    rw [List.getElem?_append] at hp
    split at hp
    ·rename_i hlt
     have := c1 i p hp
     rw [cells_take (by have := w1.1; omega)] at this
     rwa [List.getElem?_drop]
    ·rename_i hlt
     have := c2 _ p hp
     rw [List.getElem?_drop] at this ⊢
     rw [w1.1] at this
     have hlt' : l1.length≤i := by rw [← w1.1]; omega
     rw [show f.offset + l1.length + (i - l1.length) = f.offset + i by omega] at this
     exact this
   ·cases h
  ·cases h

omit [Laid] in
theorem arr_rel {l:List Sh} {k:Nat} (hk:l.length = k) {cs:List Value} (n:Nat) (h:∀ i,i < n→∃ vs,WtL l vs∧CellsR w vs ((cs.drop (i * k)).take k)):∃ vs,WtL (List.replicate n l).flatten vs∧CellsR w vs cs := by
 induction n with
 | zero => exact ⟨[],⟨rfl,by simp⟩,by intro i p h; simp at h⟩
 | succ n ih =>
  obtain ⟨v1,w1,c1⟩ := ih (fun i hi => h i (by omega))
  obtain ⟨v2,w2,c2⟩ := h n (by omega)
  have hl:v1.length = n * k := by rw [w1.1]; simp [hk]
  refine ⟨v1 ++ v2,?_,fun i p hp => ?_⟩
  ·rw [List.replicate_succ',List.flatten_append]
   simpa using w1.app w2
  ·rw [List.getElem?_append] at hp
   split at hp
   ·exact c1 i p hp
   ·rename_i hlt
    have := c2 _ p hp
    have hi:i - v1.length < k := by have := (List.getElem?_eq_some_iff.1 hp).1; rw [w2.1,hk] at this; exact this
    rw [cells_take hi,show n * k + (i - v1.length) = i by omega] at this
    exact this

omit [Laid] in
theorem trod_rel:∀ (f:Nat) (t:TypeId) (l:List Sh),shOf P f t = some l→∀ (fuel:Nat) (cs:List Value) (x:DataW H×List MemPlace),DataW.trod enc P w 0 sp held fuel t cs = some x→∃ vs,WtL l vs∧CellsR w vs cs
 | 0,_,_,h => by simp [shOf] at h
 | f + 1,t,l,h => by
  intro fuel cs x hx
  have one:∀ (s:Sh) (p:Pv) (v:Value),Wt s p→PRel (fun b => b < w.heap.size) w p v→l = [s]→cs = [v]→∃ vs,WtL l vs∧CellsR w vs cs := by
   rintro s p v h1 h2 rfl rfl
   refine ⟨[p],⟨rfl,fun i s' p' hs hp => ?_⟩,fun i p' hp => ?_⟩
   ·match i with
    | 0 => simp at hs hp; subst hs hp; exact h1
    | i + 1 => simp at hs
   ·match i with
    | 0 => simp at hp; subst hp; exact h2
    | i + 1 => simp at hp
  simp only [shOf] at h
  split at h
  ·rename_i hu
   obtain ⟨b,rfl,_⟩ := DataW.trod_bool hu hx
   exact one _ _ _ (.bool b) (.bool b) (by simpa using h.symm) rfl
  ·rename_i k hu
   obtain ⟨n,rfl,_,hw⟩ := DataW.trod_int hu hx
   exact one _ _ _ (.int k n hw) (.int k n) (by simpa using h.symm) rfl
  ·rename_i hu
   obtain ⟨s,rfl,_,hs⟩ := DataW.trod_string hu hx
   exact one _ _ _ (.str s hs) (.str s) (by simpa using h.symm) rfl
  ·rename_i e hu
   split at h
   ·rename_i le hle
    split at h
    ·rename_i hc
     obtain ⟨hc1,hc2⟩ := hc
     simp only [sJ] at h
     rcases DataW.trod_slice hu hx with ⟨rfl,_⟩ | ⟨a,len,cap,elems,rest,n,rfl,rfl,_,_,hlc,hcm,hel,helem,_,_⟩
     ·exact one _ _ _ (.sl le [] (by simp) (Nat.zero_le _) (by simp)) (.slnil _ _) h.symm rfl
     ·have hcell:∀ i,i < len→∃ cs',(cs'.length = le.length∧∀ j,j < le.length→w.cell? ((a.add (i * le.length)).add j) = cs'[j]?)∧∃ vs,WtL le vs∧CellsR w vs cs' := by
       intro i hi
       have := helem i hi
       have hie:i < elems.length := by omega
       rw [List.getElem?_eq_getElem hie] at this
       cases hcs:w.cells? 0 (a.add (i * P.cellsOf e)) (P.cellsOf e) with
       | none => simp [hcs] at this
       | some cs' =>
        simp only [hcs,Option.bind_some] at this
        refine ⟨cs',?_,trod_rel f e le hle _ _ _ this⟩
        unfold World.cells? at hcs
        rw [if_pos (Nat.zero_le _)] at hcs
        have := mapM_range_get hcs
        rw [← hc1] at this
        exact this
      have hch:∀ i,∃ q:List Value×List Pv,i < len→(q.1.length = le.length∧∀ j,j < le.length→w.cell? ((a.add (i * le.length)).add j) = q.1[j]?)∧WtL le q.2∧CellsR w q.2 q.1 := by
       intro i
       by_cases hi:i < len
       ·obtain ⟨cs',h1,vs,h2,h3⟩ := hcell i hi
        exact ⟨⟨cs',vs⟩,fun _ => ⟨h1,h2,h3⟩⟩
       ·exact ⟨⟨[],[]⟩,fun e => absurd e hi⟩
      let q := fun i => Classical.choose (hch i)
      have hq:∀ i,i < len→((q i).1.length = le.length∧∀ j,j < le.length→w.cell? ((a.add (i * le.length)).add j) = (q i).1[j]?)∧WtL le (q i).2∧CellsR w (q i).2 (q i).1 := fun i => Classical.choose_spec (hch i)
      let es := (List.range len).map fun i => (q i).2
      have hes:es.length = len := by simp [es]
      have hge:∀ i e,es[i]? = some e→i < len∧e = (q i).2 := by
       intro i e he
       have hi:i < len := by rw [← hes]; exact (List.getElem?_eq_some_iff.1 he).1
       refine ⟨hi,?_⟩
       simp only [es,List.getElem?_map,List.getElem?_range hi,Option.map_some,sJ] at he
       exact he.symm
      have hmem:∀ e∈es,∃ i,i < len∧e = (q i).2 := fun e he => by
       obtain ⟨i,hi⟩ := List.getElem?_of_mem he
       exact ⟨i,hge i e hi⟩
      refine one _ (.sl le.length es false) _ (.sl le es ?_ (by omega) ?_) ?_ h.symm rfl
      ·intro e he
       obtain ⟨i,hi,rfl⟩ := hmem e he
       exact (hq i hi).2.1.1
      ·intro e he j s p hs hp
       obtain ⟨i,hi,rfl⟩ := hmem e he
       exact (hq i hi).2.1.2 j s p hs hp
      ·rcases Nat.eq_zero_or_pos len with h0 | h0
       ·subst h0
        have:es = [] := List.eq_nil_of_length_eq_zero hes
        rw [this]
        exact .sl0 _ _ _ _ (fun e => by cases e)
       ·have hspot:a.spot = none := by
         have h1 := (hq 0 h0).1
         have h2 := h1.2 0 hc2
         rw [List.getElem?_eq_getElem (by rw [h1.1]; exact hc2)] at h2
         have := World.cell?_spot h2
         simpa [Addr.add] using this
        obtain ⟨b,o,spot⟩ := a
        simp only at hspot; subst hspot
        have hcl:∀ i j e p,es[i]? = some e→e[j]? = some p→w.cell? ⟨b,o + (i * le.length + j),none⟩ = some (((q i).1[j]?).getD undef)∧PRel (fun b => b < w.heap.size) w p (((q i).1[j]?).getD undef) := by
         intro i j e p he hp
         obtain ⟨hi,rfl⟩ := hge i e he
         obtain ⟨k1,k2,k3⟩ := hq i hi
         have hj:j < le.length := by rw [← k2.1]; exact (List.getElem?_eq_some_iff.1 hp).1
         refine ⟨?_,k3 j p hp⟩
         have hlt:j < (q i).1.length := by rw [k1.1]; exact hj
         have := k1.2 j hj
         rw [List.getElem?_eq_getElem hlt] at this ⊢
         clear_value q
         clear k1
         rw [addr_add,addr_add,Nat.add_assoc] at this; simpa using this
        refine .sl _ es false b o len cap (fun i j => ((q i).1[j]?).getD undef) ?_ hes h0 hlc (fun e => by cases e) ?_ (fun i j e p he hp => (hcl i j e p he hp).1) (fun i j e p he hp => (hcl i j e p he hp).2)
        ·have h1 := (hq 0 h0).1
         have h2 := h1.2 0 hc2
         have hlt0:0 < (q 0).1.length := by rw [h1.1]; exact hc2
         rw [List.getElem?_eq_getElem hlt0] at h2
         clear_value q
         clear h1
         rw [addr_add,addr_add] at h2
         simp only [World.cell?] at h2
         rcases Nat.lt_or_ge b w.heap.size with hlt | hge'
         ·exact hlt
         ·rw [Array.getElem?_eq_none hge'] at h2; simp at h2
        ·intro e he
         obtain ⟨i,hi,rfl⟩ := hmem e he
         exact (hq i hi).2.1.1
    ·cases h
   ·cases h
  ·rename_i fs hu
   obtain ⟨xs,n,rfl,_,_,hxl,hxs⟩ := DataW.trod_struct hu hx
   have := fs_rel (cs := cs) (fun t l ht fuel cs x hx => trod_rel f t l ht fuel cs x hx) fs.toList 0 l h (fun g hg => by
    obtain ⟨i,hi⟩ := List.getElem?_of_mem hg
    have hi' : fs[i]? = some g := by simpa using hi
    have := hxs i g hi'
    have hlt:i < xs.length := by rw [hxl]; exact (Array.getElem?_eq_some_iff.1 hi').1
    rw [List.getElem?_eq_getElem hlt] at this
    exact ⟨n,_,this⟩)
   simpa using this
  ·rename_i n e hu
   split at h
   ·rename_i le hle
    split at h
    ·rename_i hc
     simp only [sJ] at h; subst h
     obtain ⟨xs,m,rfl,_,_,hxl,hxs⟩ := DataW.trod_array hu hx
     refine arr_rel hc n fun i hi => ?_
     have := hxs i hi
     rw [List.getElem?_eq_getElem (by omega)] at this
     exact trod_rel f e le hle _ _ _ this
    ·cases h
   ·cases h
  ·cases h

def argSh (P:Program) (t:TypeId):Option (Bool×List Sh) :=
 match P.underlying t with
 | some (.struct _) | some (.array _ _) => match shOf P 12 t with
  | some l => if l.length = P.cellsOf t then some (true,l) else none
  | none => none
 | some (.int _) | some .bool | some .string | some (.slice _) => (shOf P 12 t).map (false,·)
 | _ => none

def ArgV (s:Bool×List Sh) (v:V):Prop := match s.1 with
 | true => ∃ vs,WtL s.2 vs∧v = .agg (vs.map .p)
 | false => ∃ q p,s.2 = [q]∧Wt q p∧v = .p p

inductive ArgsV:List (Bool×List Sh)→List V→Prop
 | nil:ArgsV [] []
 | cons {s v ss vs} (h:ArgV s v) (hs:ArgsV ss vs):ArgsV (s :: ss) (v :: vs)

omit [Laid] in
theorem arg_rel {t:TypeId} {sh:Bool×List Sh} (h:argSh P t = some sh) {base:Nat} {v:Value} (hv:Value.okWide P w .any base t v) {d:DataW H} {ps:List MemPlace} (hd:DataW.Trod enc P w 0 sp held t v d ps) :
  ∃ u,ArgV sh u∧VRel Plc0 (fun b => b < w.heap.size) w u v := by
 obtain ⟨fuel,hd⟩ := hd
 have agg:∀ cs:Array Value,v = .agg cs→cs.size = P.cellsOf t→(match shOf P 12 t with | some l => if l.length = P.cellsOf t then some (true,l) else none | none => none) = some sh→∃ u,ArgV sh u∧VRel Plc0 (fun b => b < w.heap.size) w u v := by
  intro cs hcs hsz h
  split at h
  ·rename_i l hl
   split at h
   ·rename_i hlen
    simp only [sJ] at h; subst h
    subst hcs
    obtain ⟨vs,h1,h2⟩ := trod_rel 12 t l hl fuel _ _ hd
    refine ⟨.agg (vs.map .p),⟨vs,h1,rfl⟩,.agg _ _ (by simp [h1.1,hlen,hsz]) fun i c hi => ?_⟩
    rw [List.getElem?_map] at hi
    cases hp:vs[i]? with
    | none => simp [hp] at hi
    | some p =>
     simp only [hp,Option.map_some,sJ] at hi; subst hi
     rw [getD_of_list]
     exact .p _ _ (h2 i p hp)
   ·cases h
  ·cases h
 have one:∀ x,v = x→x.cells = #[x]→(∀ l,shOf P 12 t = some l→l.length = 1)→(shOf P 12 t).map (false,·) = some sh→∃ u,ArgV sh u∧VRel Plc0 (fun b => b < w.heap.size) w u v := by
  intro x hx hc h1 h
  simp only [Option.map_eq_some_iff] at h
  obtain ⟨l,hl,rfl⟩ := h
  obtain ⟨vs,k1,k2⟩ := trod_rel 12 t l hl fuel _ _ hd
  subst hx
  rw [hc] at k2
  have hl1 := h1 l hl
  match l,vs,k1,k2,hl1 with
  | [q],[p],k1,k2,_ =>
   exact ⟨.p p,⟨q,p,rfl,k1.2 0 q p rfl rfl,rfl⟩,.p _ _ (by simpa using k2 0 p rfl)⟩
  | [q],[],k1,_,_ => have := k1.1; simp at this
  | [q],_ :: _ :: _,k1,_,_ => have := k1.1; simp at this
 unfold argSh at h
 split at h
 ·rename_i fs hu
  obtain ⟨cs,h1,h2⟩ := Go.WideShapes.okWide_struct hu hv
  exact agg cs h1 h2 h
 ·rename_i n e hu
  simp only [Value.okWide,hu] at hv
  obtain ⟨cs,h1,h2,_⟩ := hv
  exact agg cs h1 h2 h
 ·rename_i k hu
  obtain ⟨n,rfl⟩ := Go.WideShapes.okWide_int hu hv
  exact one _ rfl rfl (by intro l hl; simp [shOf,hu] at hl; subst hl; rfl) h
 ·rename_i hu
  obtain ⟨n,rfl⟩ := Go.WideShapes.okWide_bool hu hv
  exact one _ rfl rfl (by intro l hl; simp [shOf,hu] at hl; subst hl; rfl) h
 ·rename_i hu
  obtain ⟨n,rfl⟩ := Go.WideShapes.okWide_string hu hv
  exact one _ rfl rfl (by intro l hl; simp [shOf,hu] at hl; subst hl; rfl) h
 ·rename_i e hu
  obtain ⟨a,n,c,rfl⟩ := Go.WideShapes.okWide_slice hu hv
  refine one _ rfl rfl ?_ h
  intro l hl
  simp only [shOf,hu] at hl
  split at hl
  ·split at hl
   ·simp only [sJ] at hl; subst hl; rfl
   ·cases hl
  ·cases hl
 ·cases h

omit [Laid] in
theorem args_of:∀ (ts:List TypeId) (vs:List Value) (ds:List (DataW H)) (ps:List MemPlace) (ss:List (Bool×List Sh)),DataW.TrodAll enc P w 0 sp held ts vs ds ps→optAll (argSh P) ts = some ss →
  (∀ (j:Nat) t v,ts[j]? = some t→vs[j]? = some v→∃ base,Value.okWide P w .any base t v)→∃ us,ArgsV ss us∧vs.length = us.length∧ds.length = ts.length∧∀ (i:Nat) (u:V),us[i]? = some u→VRel Plc0 (fun b => b < w.heap.size) w u ((vs[i]?).getD undef)
 | [],[],[],_,ss,_,h,_ => by
  simp only [optAll,sJ] at h; subst h
  exact ⟨[],.nil,rfl,rfl,by simp⟩
 | t :: ts,v :: vs,d :: ds,_,ss,⟨p,q,h1,h2,_⟩,h,hv => by
  simp only [optAll] at h
  split at h
  ·rename_i s ss' hs hss
   simp only [sJ] at h; subst h
   obtain ⟨base,hb⟩ := hv 0 t v rfl rfl
   obtain ⟨u,k1,k2⟩ := arg_rel hs hb h1
   obtain ⟨us,g1,g2,g4,g3⟩ := args_of ts vs ds q ss' h2 hss (fun j t v h1 h2 => hv (j + 1) t v (by simpa using h1) (by simpa using h2))
   refine ⟨u :: us,.cons k1 g1,by simp [g2],by simp [g4],fun i x hi => ?_⟩
   match i with
   | 0 => simp at hi; subst hi; simpa using k2
   | i + 1 => simpa using g3 i x (by simpa using hi)
  ·cases h
 | [],[],_ :: _,_,_,h,_,_ => by simp [DataW.TrodAll] at h
 | [],_ :: _,_,_,_,h,_,_ => by simp [DataW.TrodAll] at h
 | _ :: _,[],_,_,_,h,_,_ => by simp [DataW.TrodAll] at h
 | _ :: _,_ :: _,[],_,_,h,_,_ => by simp [DataW.TrodAll] at h

omit [Laid] in
theorem trodAll_stays (hl:laidOutB P = true) {W W' : World} {sp' : Nat→Bool} (hb:Below W.heap.size W W'):∀ (ts:List TypeId) (vs:List Value) (ds:List (DataW H)) (ps:List MemPlace),(∀ t∈ts,P.readableRec t = true∧t < P.types.size) →
  DataW.TrodAll enc P W 0 (fun _ => true) true ts vs ds ps→(∀ x∈ps,x.block < W.heap.size)→(∀ x∈ps,sp' x.block = true)→DataW.TrodAll enc P W' 0 sp' true ts vs ds ps
 | [],[],[],_,_,h,_,_ => h
 | t :: ts,v :: vs,d :: ds,_,hr,⟨p,q,h1,h2,rfl⟩,hlt,hs =>
  ⟨p,q,WideElems.Trod_stays hl (hr t (by simp)).1 (hr t (by simp)).2 h1 (fun x hx => hb.same (hlt x (by simp [hx]))) (fun x hx => hs x (by simp [hx])),
   trodAll_stays hl hb ts vs ds q (fun t ht => hr t (by simp [ht])) h2 (fun x hx => hlt x (by simp [hx])) (fun x hx => hs x (by simp [hx])),rfl⟩
 | [],[],_ :: _,_,_,h,_,_ => by simp [DataW.TrodAll] at h
 | [],_ :: _,_,_,_,h,_,_ => by simp [DataW.TrodAll] at h
 | _ :: _,[],_,_,_,h,_,_ => by simp [DataW.TrodAll] at h
 | _ :: _,_ :: _,[],_,_,h,_,_ => by simp [DataW.TrodAll] at h
end

end Go.Mx
