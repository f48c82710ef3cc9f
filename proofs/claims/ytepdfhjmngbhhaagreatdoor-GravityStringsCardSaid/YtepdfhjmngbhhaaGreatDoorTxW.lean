/- Layers of the walk: abstract values, operations, calls, loops, and what they do. No condition. -/
import Derived.Test.YtepdfhjmngbhhaaGreatDoorTxX
namespace Go.Mx
variable [Laid]
open Go.RowKit

omit [Laid] in
theorem LeL.leS {ps qs:List Pv} (h:LeL ps qs):LeS ps qs := ⟨h.1,fun i x y h1 h2 S w v hv => (h.2 i x y h1 h2).rel hv⟩

def finOT (T:TSt) (e:Ty) (res:List ARes) (K:List e.den→Prop):Prop :=
 match resT T res with
 | some [.own s t] => match T.c s with
  | .dyn true t' l => match Nat.beq t'.n t.n,castL t' e l with
   | true,some l' => K l'
   | _,_ => False
  | _ => False
 | some [.nil] => K []
 | _ => False
def tfnO (F:TFn) (A:Nat→Ty) (C:Cons) (ps:List PSh) (e:Ty) (x:(tyPs ps).den) (K:List e.den→Prop):Prop :=
 match Nat.ble ps.length F.nt with
 | true => tev ⟨F.nt,F.ns,0,A,C⟩ F.code (fun ex T => match ex with
  | .exit _ => False
  | _ => finOT T e F.res K) (initT (tvPs ps x))
 | false => False

def finAT (T:TSt) (e:Ty) (res:List ARes) (K:List e.den→Prop):Prop :=
 match resT T res with
 | some [.agg [.own s t]] => match T.c s with
  | .dyn true t' l => match Nat.beq t'.n t.n,castL t' e l with
   | true,some l' => K l'
   | _,_ => False
  | _ => False
 | some [.agg [.nil]] => K []
 | _ => False
def tfnA (F:TFn) (A:Nat→Ty) (C:Cons) (ps:List PSh) (e:Ty) (x:(tyPs ps).den) (K:List e.den→Prop):Prop :=
 match Nat.ble ps.length F.nt with
 | true => tev ⟨F.nt,F.ns,0,A,C⟩ F.code (fun ex T => match ex with
  | .exit _ => False
  | _ => finAT T e F.res K) (initT (tvPs ps x))
 | false => False

def finBT (T:TSt) (k:IntKind) (e:Ty) (res:List ARes) (K:Int×List e.den→Prop):Prop :=
 match resT T res with
 | some [.agg [.i k' z,.own s t]] => match T.c s with
  | .dyn true t' l => match Nat.beq t'.n t.n && decide (k' = k),castL t' e l with
   | true,some l' => K (z,l')
   | _,_ => False
  | _ => False
 | _ => False
def tfnB (F:TFn) (A:Nat→Ty) (C:Cons) (ps:List PSh) (k:IntKind) (e:Ty) (x:(tyPs ps).den) (K:Int×List e.den→Prop):Prop :=
 match Nat.ble ps.length F.nt with
 | true => tev ⟨F.nt,F.ns,0,A,C⟩ F.code (fun ex T => match ex with
  | .exit _ => False
  | _ => finBT T k e F.res K) (initT (tvPs ps x))
 | false => False

section
variable {P:Program}
omit [Laid] in
theorem init_conc (F:TFn) (A:Nat→Ty) (C:Cons) (ps:List PSh) (x:(tyPs ps).den) (hle:ps.length≤F.nt):Conc F.nt F.ns ⟨fun _ => 0,fun _ => 0⟩ (initT (tvPs ps x)) (initSt F.erase (valPs ps x)) := by
 refine ⟨?_,by simp [initSt,TFn.erase],fun n => ?_,fun s => by cases (initSt F.erase (valPs ps x)).hp[s]? <;> trivial,fun _ _ => rfl⟩
 ·simp only [initSt,TFn.erase,List.length_append,List.length_replicate,(valPs_get ps x).1]
  omega
 ·exact listT_rel (tvPs_rel ps x) n _

theorem reto_tfn {f:FuncId} {F:TFn} (hc:cFn P f = some F.erase) {A:Nat→Ty} {C:Cons} (hC:ConsOk P C) {ps:List PSh} {e:Ty} {x:(tyPs ps).den} {y:List e.den} (h:tfnO F A C ps e x (fun z => z = y)) :
  RetO P f (valPs ps x) (fun t ver => .ref t ver 0 y.length e.n) (((List.map e.enc y).flatten).map .p) := by
 unfold tfnO at h
 split at h
 rotate_left
 ·exact h.elim
 rename_i hle
 have hle := Nat.le_of_ble_eq_true hle
 have hinit := init_conc F A C ps x hle
 have hrun := tev_sound (P := P) (X := ⟨F.nt,F.ns,0,A,C⟩) hC F.code _ _ _ _ hinit h
 refine reto_of hc (awp_mono _ _ _ _ ?_ hrun)
 rintro ex s ⟨E',T',hk,hcon,_,_⟩
 have fin:finOT T' e F.res (fun z => z = y)→∃ v ps',resV s F.erase.res = some v∧ownV s.hp v y.length e.n ps'∧LeS ps' (List.map e.enc y).flatten := by
  intro hf
  unfold finOT at hf
  split at hf
  ·rename_i s0 t hvs
   obtain ⟨us,h1,h2⟩ := resT_rel hcon hvs
   obtain ⟨u,rfl,hu⟩ : ∃ u,us = [u]∧TRel E' (.own s0 t) u := by
    match us,h2.1 with
    | [u],_ => exact ⟨u,rfl,h2.2 0 _ u rfl rfl⟩
   split at hf
   ·rename_i t' l hl
    split at hf
    ·rename_i l' hn hcast
     subst hf
     have hn := Nat.eq_of_beq_eq_true hn
     obtain ⟨b,q1,q2,q3,q4,q5,es,q6,q7⟩ := dyn_blk hcon hl
     obtain ⟨e1,e2⟩ := castL_le hcast
     rw [e2] at q7
     have hll:l.length = l'.length := by have := congrArg List.length e2; simpa using this
     refine ⟨u,es.flatten,by simp only [resV,TFn.erase,h1],.inr ⟨s0,b,?_,q1,q4,q6⟩,q7.flat.leS⟩
     rw [hu.inv_own,q2,q5,hll,← hn,e1]
    ·exact hf.elim
   ·exact hf.elim
  ·rename_i hvs
   subst hf
   obtain ⟨us,h1,h2⟩ := resT_rel hcon hvs
   obtain ⟨u,rfl,hu⟩ : ∃ u,us = [u]∧TRel E' .nil u := by
    match us,h2.1 with
    | [u],_ => exact ⟨u,rfl,h2.2 0 _ u rfl rfl⟩
   obtain ⟨k,rfl⟩ := hu.inv_nil
   exact ⟨_,[],by simp only [resV,TFn.erase,h1],.inl ⟨k,rfl,rfl,rfl⟩,.refl _⟩
  ·exact hf.elim
 cases ex with
 | normal => exact fin hk
 | ret => exact fin hk
 | exit id => exact hk.elim

theorem conO_tfn {f:FuncId} {F:TFn} (hcl:callable P f = true) (hc:cFn P f = some F.erase) {A:Nat→Ty} {C:Cons} (hC:ConsOk P C) {ps:List PSh} {e:Ty} {pre:(tyPs ps).den→List Prop} {fn:(tyPs ps).den→(tyPs [.one (.sl e)]).den}
  (h:∀ x,(∀ p∈pre x,p)→tfnO F A C ps e x (fun z => z = fn x)):ConOOk P f ⟨ps,[.one (.sl e)],pre,fn⟩ :=
 ⟨hcl,fun x hx => reto_tfn hc hC (h x hx)⟩
end

inductive TfO (F:TFn) (A:Nat→Ty) (C:Cons) (ps:List PSh) (e:Ty) (x:(tyPs ps).den) (K:List e.den→Prop):Prop
 | mk (h:tfnO F A C ps e x K):TfO F A C ps e x K
omit [Laid] in
theorem tfo_of {F:TFn} {A:Nat→Ty} {C:Cons} {ps:List PSh} {e:Ty} {x:(tyPs ps).den} {K:List e.den→Prop} {p:Prop} (h0:tfnO F A C ps e x K = p) (h:p):TfO F A C ps e x K := .mk (by rw [h0]; exact h)
theorem conO_tf {P:Program} {f:FuncId} {F:TFn} (hcl:callable P f = true) (hc:cFn P f = some F.erase) {A:Nat→Ty} {C:Cons} (hC:ConsOk P C) {ps:List PSh} {e:Ty} {pre:(tyPs ps).den→List Prop} {fn:(tyPs ps).den→(tyPs [.one (.sl e)]).den}
  (h:∀ x,(∀ p∈pre x,p)→TfO F A C ps e x (fun z => z = fn x)):ConOOk P f ⟨ps,[.one (.sl e)],pre,fn⟩ :=
 conO_tfn hcl hc hC fun x hx => by cases h x hx with | mk h => exact h

inductive TfA (F:TFn) (A:Nat→Ty) (C:Cons) (ps:List PSh) (e:Ty) (x:(tyPs ps).den) (K:List e.den→Prop):Prop
 | mk (h:tfnA F A C ps e x K):TfA F A C ps e x K
inductive TfB (F:TFn) (A:Nat→Ty) (C:Cons) (ps:List PSh) (k:IntKind) (e:Ty) (x:(tyPs ps).den) (K:Int×List e.den→Prop):Prop
 | mk (h:tfnB F A C ps k e x K):TfB F A C ps k e x K
def ioTV:Nat→List TV→List TV
 | _,[] => []
 | j,.sl e _ :: r => .own j e :: ioTV (j + 1) r
 | j,_ :: r => .und :: ioTV (j + 1) r
def ioTC:List TV→Nat→TC
 | .sl e l :: _,0 => .dyn true e l
 | _ :: r,s + 1 => ioTC r s
 | _,_ => .dead
def initN (m:Nat) (vs:List TV):TSt := ⟨listT (vs.take (vs.length - m) ++ ioTV 0 (vs.drop (vs.length - m))),ioTC (vs.drop (vs.length - m)),fun _ => 0,fun _ => 0⟩
def ioBack (T:TSt):Nat→Nat→List TV
 | 0,_ => []
 | m + 1,j => (match T.c j with
  | .dyn true t _ => .own j t
  | _ => .und) :: ioBack T m (j + 1)
def sameV (T:TSt):Nat→Nat→Bool
 | 0,_ => true
 | m + 1,j => Nat.beq (T.v j) 0 && sameV T m (j + 1)
def finNT (m:Nat) (T:TSt) (rs:List PSh) (res:List ARes) (K:(tyPs rs).den→Prop):Prop :=
 match resT T res with
 | some vs => match sameV T m 0 && Nat.beq vs.length (rs.length - m) && vs.all isPure,packPs T.c rs (vs ++ ioBack T m 0) with
  | true,some z => K z
  | _,_ => False
 | none => False
def tfnN (F:TFn) (A:Nat→Ty) (C:Cons) (m:Nat) (ps rs:List PSh) (x:(tyPs ps).den) (K:(tyPs rs).den→Prop):Prop :=
 match Nat.ble ps.length F.nt with
 | true => tev ⟨F.nt,F.ns + m,m,A,C⟩ F.code (fun ex T => match ex with
  | .exit _ => False
  | _ => finNT m T rs F.res K) (initN m (tvPs ps x))
 | false => False

section
variable {P:Program}
omit [Laid] in
theorem ioTV_get:∀ (l:List TV) (k:Nat),(ioTV k l).length = l.length∧∀ (j:Nat) (e:Ty) (x:List e.den),l[j]? = some (.sl e x)→(ioTV k l)[j]? = some (.own (k + j) e)
 | [],_ => ⟨rfl,by simp⟩
 | v :: l,k => by
  obtain ⟨h1,h2⟩ := ioTV_get l (k + 1)
  refine ⟨by cases v <;> simp [ioTV,h1],fun j e x hj => ?_⟩
  match j with
  | 0 => simp only [List.getElem?_cons_zero,sJ] at hj; subst hj; rfl
  | j + 1 =>
   have := h2 j e x (by simpa using hj)
   cases v <;> (simp only [ioTV,List.getElem?_cons_succ,this]; congr 2; omega)
omit [Laid] in
theorem ioTC_get:∀ (l:List TV),(∀ (j:Nat) (e:Ty) (x:List e.den),l[j]? = some (.sl e x)→ioTC l j = .dyn true e x)∧∀ j,l.length≤j→ioTC l j = .dead
 | [] => ⟨by simp,fun j _ => by cases j <;> rfl⟩
 | v :: l => by
  obtain ⟨h1,h2⟩ := ioTC_get l
  refine ⟨fun j e x hj => ?_,fun j hj => ?_⟩
  ·match j with
   | 0 => simp only [List.getElem?_cons_zero,sJ] at hj; subst hj; rfl
   | j + 1 =>
    have := h1 j e x (by simpa using hj)
    cases v <;> exact this
  ·match j with
   | 0 => simp at hj
   | j + 1 =>
    have := h2 j (by simpa using hj)
    cases v <;> exact this
omit [Laid] in
theorem ioRefs_get:∀ (l:List V) (k:Nat),(ioRefs k l).length = l.length∧∀ (j:Nat) (v:V),l[j]? = some v→(ioRefs k l)[j]? = some (.ref (k + j) 0 0 (slEs v).length (slK v))
 | [],_ => ⟨rfl,by simp⟩
 | a :: l,k => by
  obtain ⟨i1,i2⟩ := ioRefs_get l (k + 1)
  refine ⟨by simp [ioRefs,i1],fun j v hv => ?_⟩
  match j with
  | 0 => simp only [List.getElem?_cons_zero,sJ] at hv; subst hv; rfl
  | j + 1 =>
   have := i2 j v (by simpa using hv)
   simp only [ioRefs,List.getElem?_cons_succ,this]
   congr 2; omega
omit [Laid] in
theorem ioBack_get {T:TSt}:∀ (m k:Nat),(ioBack T m k).length = m∧∀ j,j < m→(ioBack T m k)[j]? = some (match T.c (k + j) with
  | .dyn true t _ => .own (k + j) t
  | _ => .und)
 | 0,_ => ⟨rfl,by simp⟩
 | m + 1,k => by
  obtain ⟨h1,h2⟩ := ioBack_get (T := T) m (k + 1)
  refine ⟨by simp [ioBack,h1],fun j hj => ?_⟩
  match j with
  | 0 => rfl
  | j + 1 =>
   have := h2 j (by omega)
   simp only [ioBack,List.getElem?_cons_succ,this]
   rw [show k + 1 + j = k + (j + 1) by omega]
omit [Laid] in
theorem sameV_get {T:TSt}:∀ (m k:Nat),sameV T m k = true→∀ j,j < m→T.v (k + j) = 0
 | 0,_,_,_,h => absurd h (Nat.not_lt_zero _)
 | m + 1,k,h,j,hj => by
  simp only [sameV,Bool.and_eq_true] at h
  match j with
  | 0 => exact Nat.eq_of_beq_eq_true h.1
  | j + 1 =>
   have := sameV_get m (k + 1) h.2 j (by omega)
   rw [show k + (j + 1) = k + 1 + j by omega]; exact this

omit [Laid] in
theorem isSlP_ok {p:PSh} (h:isSlP p = true):∃ e,p = .one (.sl e)∧0 < e.n := by
 unfold isSlP at h
 split at h
 ·rename_i e
  exact ⟨e,rfl,by
   have:1≤e.n := by simpa [Nat.blt] using h
   exact this⟩
 ·cases h
omit [Laid] in
theorem psEq_get:∀ (a b:List PSh),psEq a b = true→∀ (i:Nat) (p:PSh),a[i]? = some p→b[i]? = some p
 | [],_,_,i,p,h => by simp at h
 | a :: r,b,hb,i,p,hp => by
  cases a with
  | one ta =>
   cases b with
   | nil => simp [psEq] at hb
   | cons b s =>
    cases b with
    | one tb =>
     simp only [psEq,Bool.and_eq_true] at hb
     match i with
     | 0 => simp only [List.getElem?_cons_zero,sJ] at hp ⊢; rw [← hp,Ty.beq_eq hb.1]
     | i + 1 => exact psEq_get r s hb.2 i p (by simpa using hp)
    | _ => simp [psEq] at hb
  | _ => simp [psEq] at hb

theorem retn_tfn {f:FuncId} {F:TFn} {m:Nat} (hc:cFnN P m f = some F.erase) {A:Nat→Ty} {C:Cons} (hC:ConsOk P C) {ps rs:List PSh} (hm1:m≤ps.length) (hm2:m≤rs.length) (hsh:(ps.drop (ps.length - m)).all isSlP = true) (hps:psEq (ps.drop (ps.length - m)) (rs.drop (rs.length - m)) = true)
  {x:(tyPs ps).den} {y:(tyPs rs).den} (h:tfnN F A C m ps rs x (fun z => z = y)) :
  RetN P f ((valPs ps x).take (ps.length - m) ++ ioRefs 0 ((valPs ps x).drop (ps.length - m))) (((valPs ps x).drop (ps.length - m)).map fun v => (slEs v).flatten) (oneOf ((valPs rs y).take (rs.length - m))) (((valPs rs y).drop (rs.length - m)).map fun v => (slEs v).flatten) := by
 unfold tfnN at h
 split at h
 rotate_left
 ·exact h.elim
 rename_i hle
 have hle := Nat.le_of_ble_eq_true hle
 obtain ⟨vl1,vl2,vl3⟩ := valPs_get ps x
 obtain ⟨rl1,rl2,rl3⟩ := valPs_get rs y
 let n := ps.length - m
 rw [List.all_eq_true] at hsh
 have hio:∀ j,j < m→∃ e,∃ l:List e.den,ps[n + j]? = some (.one (.sl e))∧((valPs ps x).drop n)[j]? = some (.p (.sl e.n (List.map e.enc l) false))∧((tvPs ps x).drop n)[j]? = some (.sl e l) := by
  intro j hj
  have hp:n + j < ps.length := by omega
  obtain ⟨e,he,_⟩ := isSlP_ok (hsh ps[n + j] (by
   rw [List.mem_iff_getElem?]
   exact ⟨j,by rw [List.getElem?_drop]; exact List.getElem?_eq_getElem hp⟩))
  have hpe:ps[n + j]? = some (.one (.sl e)) := by rw [List.getElem?_eq_getElem hp,he]
  obtain ⟨l,y1,y2⟩ := vl3 _ _ hpe
  exact ⟨e,l,hpe,by rw [List.getElem?_drop]; exact y1,by rw [List.getElem?_drop]; exact y2⟩
 let args:List V := (valPs ps x).take n ++ ioRefs 0 ((valPs ps x).drop n)
 let pss:List (List Pv) := ((valPs ps x).drop n).map fun v => (slEs v).flatten
 let E0:Env := ⟨fun _ => 0,fun j => (slEs (((valPs ps x).drop n).getD j .und)).length⟩
 obtain ⟨r1,r2⟩ := ioRefs_get ((valPs ps x).drop n) 0
 obtain ⟨t1,t2⟩ := ioTV_get ((tvPs ps x).drop n) 0
 obtain ⟨c1,c2⟩ := ioTC_get ((tvPs ps x).drop n)
 have hdl:((valPs ps x).drop n).length = m := by rw [List.length_drop,vl1]; omega
 have hdl2:((tvPs ps x).drop n).length = m := by rw [List.length_drop,vl2]; omega
 have hal:args.length = ps.length := by
  show (List.take n (valPs ps x) ++ ioRefs 0 (List.drop n (valPs ps x))).length = _
  rw [List.length_append,List.length_take,vl1,r1,hdl]; omega
 have hpl:pss.length = m := by show (List.map _ _).length = m; rw [List.length_map,hdl]
 have hvn:(tvPs ps x).length - m = n := by rw [vl2]
 have hargs:LRel E0 ((tvPs ps x).take ((tvPs ps x).length - m) ++ ioTV 0 ((tvPs ps x).drop ((tvPs ps x).length - m))) args := by
  rw [hvn]
  refine ((tvPs_rel ps x).take n).append ⟨by rw [r1,t1,hdl,hdl2],fun j c v h1 h2 => ?_⟩
  have hj:j < m := by have := (List.getElem?_eq_some_iff.1 h1).1; rwa [t1,hdl2] at this
  obtain ⟨e,l,k1,k2,k3⟩ := hio j hj
  rw [t2 j e l k3] at h1
  rw [r2 j _ k2] at h2
  simp only [sJ,Nat.zero_add] at h1 h2
  subst h1 h2
  have := TRel.own (E := E0) j e
  simp only [E0,List.getD,k2,Option.getD_some] at this
  exact this
 have hinit:Conc F.nt (F.ns + m) E0 (initN m (tvPs ps x)) (initStN F.erase args pss) := by
  refine ⟨?_,?_,fun k => ?_,fun s => ?_,fun _ _ => rfl⟩
  ·simp only [initStN,TFn.erase,List.length_append,List.length_replicate,hal]; omega
  ·simp only [initStN,TFn.erase,List.length_append,List.length_replicate,List.length_map,hpl]; omega
  ·exact listT_rel hargs k _
  ·simp only [initN,hvn]
   by_cases hs:s < m
   ·obtain ⟨e,l,k1,k2,k3⟩ := hio s hs
    rw [c1 s e l k3]
    have hq:pss[s]? = some ((List.map e.enc l).flatten) := by
     show (List.map _ _)[s]? = _
     rw [List.getElem?_map,k2]; rfl
    have hb:(initStN F.erase args pss).hp[s]? = some ⟨0,.live,((List.map e.enc l).flatten).map .p⟩ := by
     simp only [initStN]
     rw [List.getElem?_append_left (by simp [hpl,hs]),List.getElem?_map,hq]; rfl
    rw [hb]
    refine ⟨rfl,rfl,rfl,?_,_,rfl,⟨rfl,fun i a b h1 h2 => by rw [h1] at h2; injection h2 with h2; subst h2; exact .refl _⟩⟩
    simp only [E0,List.getD,k2,Option.getD_some,slEs,List.length_map]
   ·rw [c2 s (by omega)]
    cases (initStN F.erase args pss).hp[s]? <;> trivial
 have hrun := tev_sound (P := P) (X := ⟨F.nt,F.ns + m,m,A,C⟩) hC F.code _ _ _ _ hinit h
 -- what stands behind
 have back:∀ (T' : TSt) (E' : Env) (s:St),Conc F.nt (F.ns + m) E' T' s→Hist E0 (initN m (tvPs ps x)) E' T'→finNT m T' rs F.res (fun z => z = y) →
   (∃ v r0,resV s F.erase.res = some v∧purR s.hp v = some r0∧(∀ S w z,VRel Plc0 S w r0 z→VRel Plc0 S w (oneOf ((valPs rs y).take (rs.length - m))) z)∧((slotsR v).all fun t => decide (m≤t)) = true) ∧
   ∀ i,i < m→∃ ps',s.hp[i]? = some ⟨0,.live,ps'.map .p⟩∧LeS ps' ((((valPs rs y).drop (rs.length - m)).map fun v => (slEs v).flatten).getD i []) := by
  intro T' E' s hcon hhist hf
  unfold finNT at hf
  split at hf
  rotate_left
  ·exact hf.elim
  rename_i vs hvs
  split at hf
  rotate_left
  ·exact hf.elim
  rename_i z hall hz
  subst hf
  simp only [Bool.and_eq_true] at hall
  obtain ⟨⟨hsv,hvl⟩,hpure⟩ := hall
  have hvl := Nat.eq_of_beq_eq_true hvl
  rw [List.all_eq_true] at hpure
  obtain ⟨us,g1,g2⟩ := resT_rel (X := ⟨F.nt,F.ns + m,m,A,C⟩) hcon hvs
  obtain ⟨hx1,hx2⟩ := packPs_get hz
  obtain ⟨b1,b2⟩ := ioBack_get (T := T') m 0
  have hp:∀ (i:Nat) (u:V),us[i]? = some u→∃ p,u = .p p∧∃ q,(valPs rs z)[i]? = some q∧VLe (.p p) q := by
   intro i u hu
   obtain ⟨c,hcc⟩ := get_of_len g2.1 hu
   have hr := g2.2 i c u hcc hu
   have hi:i < vs.length := (List.getElem?_eq_some_iff.1 hcc).1
   have hpu := hpure c (List.mem_of_getElem? hcc)
   have hri:i < rs.length := by omega
   obtain ⟨y',y1,y2,_⟩ := hx2 i rs[i] c (List.getElem?_eq_getElem hri) (by rw [List.getElem?_append_left hi]; exact hcc)
   obtain ⟨a,a1,a2,_⟩ := packP_rel hcon y1 hr
   obtain ⟨p,rfl⟩ : ∃ p,u = .p p := by
    cases c with
    | i k n => cases hr with | pure _ p _ => exact ⟨p,rfl⟩
    | b x => cases hr with | pure _ p _ => exact ⟨p,rfl⟩
    | _ => simp [isPure] at hpu
   simp only [pur,sJ] at a1
   subst a1
   exact ⟨p,rfl,_,y2,a2⟩
  have husl:us.length = rs.length - m := by rw [g2.1,hvl]
  have hvle:VLeL us ((valPs rs z).take (rs.length - m)) := by
   refine ⟨by rw [List.length_take,rl1,husl]; omega,fun i a b ha hb => ?_⟩
   obtain ⟨p,rfl,q,hq,hle⟩ := hp i a ha
   rw [List.getElem?_take] at hb
   split at hb
   ·rw [hq] at hb; injection hb with hb; subst hb; exact hle
   ·cases hb
  constructor
  ·have hpur:∀ (l:List V),(∀ u∈l,∃ p,u = .p p)→optAll (pur s.hp) l = some l := by
    intro l
    induction l with
    | nil => intro _; rfl
    | cons a l ih =>
     intro hh
     obtain ⟨p,rfl⟩ := hh a (by simp)
     simp only [optAll,pur,ih (fun u hu => hh u (by simp [hu]))]
   have hmem:∀ u∈us,∃ p,u = .p p := by
    intro u hu
    obtain ⟨i,hi⟩ := List.getElem?_of_mem hu
    obtain ⟨p,e,_⟩ := hp i u hi
    exact ⟨p,e⟩
   match us,g1,hvle,hpur us hmem,hmem with
   | [],g1,hvle,_,_ =>
    refine ⟨.tup [],.tup [],by simp only [resV,TFn.erase,g1],rfl,?_,rfl⟩
    have hl := hvle.1
    match hq:(valPs rs z).take (rs.length - m),hl with
    | [],_ => exact fun _ _ _ h => h
   | [u],g1,hvle,_,hmem =>
    obtain ⟨p,rfl⟩ := hmem u (by simp)
    refine ⟨.p p,.p p,by simp only [resV,TFn.erase,g1],rfl,?_,rfl⟩
    have hl := hvle.1
    match hq:(valPs rs z).take (rs.length - m),hl with
    | [b],_ => exact hvle.2 0 _ b rfl (by rw [hq]; rfl)
   | u :: u' :: us,g1,hvle,hpu,hmem =>
    refine ⟨.tup (u :: u' :: us),.tup (u :: u' :: us),by simp only [resV,TFn.erase,g1],by simp only [purR,hpu,Option.map_some],?_,?_⟩
    ·have hl := hvle.1
     match hq:(valPs rs z).take (rs.length - m),hl with
     | b :: b' :: bs,_ => rw [hq] at hvle; exact vle_tup hvle
    ·simp only [slotsR,List.all_flatMap,List.all_eq_true]
     intro v hv
     obtain ⟨p,rfl⟩ := hmem v hv
     intro t ht; simp [slots,slotC] at ht
  ·intro i hi
   have hv0 := sameV_get m 0 hsv i hi
   rw [Nat.zero_add] at hv0
   obtain ⟨e,l,k1,k2,k3⟩ := hio i hi
   have hrp := psEq_get _ _ hps i (.one (.sl e)) (by rw [List.getElem?_drop]; exact k1)
   rw [List.getElem?_drop] at hrp
   have hback := b2 i hi
   rw [Nat.zero_add] at hback
   have hc' : (vs ++ ioBack T' m 0)[rs.length - m + i]? = (ioBack T' m 0)[i]? := by
    rw [List.getElem?_append_right (by omega)]
    congr 1; omega
   rw [hback] at hc'
   obtain ⟨y',y1,y2,_⟩ := hx2 _ _ _ hrp hc'
   -- the slot's form
   have:∃ t l',T'.c i = .dyn true t l'∧∃ l2:List e.den,y' = l2∧implSl T'.c e (implode e deadC) (.own i t) = some l2 := by
    split at y1
    ·rename_i t l' hl'
     refine ⟨t,l',hl',?_⟩
     simp only [packP,packP0,unfs,implode] at y1
     split at y1
     ·rename_i y'' _ hy''
      split at hy''
      ·rename_i l2 hl2
       simp only [sJ,pJ] at hy'' y1
       exact ⟨l2,by rw [← y1,← hy''.1],hl2⟩
      ·cases hy''
     ·cases y1
    ·simp [packP,packP0,unfs,implode,implSl] at y1
   obtain ⟨t,l',hl',l2,rfl,himp⟩ := this
   simp only [implSl,hl'] at himp
   split at himp
   rotate_left
   ·cases himp
   obtain ⟨e1,e2⟩ := castL_le himp
   obtain ⟨b,q1,q2,q3,q4,q5,es,q6,q7⟩ := dyn_blk hcon hl'
   obtain ⟨_,_,hh,_⟩ := hhist i
   obtain ⟨hvr,hln⟩ := hh (by rw [hv0]; rfl)
   rw [e2] at q7
   have hyv:((valPs rs z).drop (rs.length - m))[i]? = some (.p (.sl e.n (List.map e.enc y') false)) := by
    rw [List.getElem?_drop]; exact y2
   refine ⟨es.flatten,?_,?_⟩
   ·rw [q1]
    obtain ⟨bv,bs,bc⟩ := b
    simp only at q2 q4 q6
    rw [q2,hvr,q4,q6]; rfl
   ·simp only [List.getD,List.getElem?_map,hyv,Option.map_some,Option.getD_some,slEs]
    exact q7.flat.leS
 have hbl:(((valPs rs y).drop (rs.length - m)).map fun v => (slEs v).flatten).length = m := by rw [List.length_map,List.length_drop,rl1]; omega
 refine retn_of hc hpl hbl (awp_mono _ _ _ _ ?_ hrun)
 rintro ex s ⟨E',T',hk,hcon,hhist,_⟩
 cases ex with
 | normal => exact back T' E' s hcon hhist hk
 | ret => exact back T' E' s hcon hhist hk
 | exit id => exact hk.elim

theorem conN_tfn {f:FuncId} {F:TFn} {m:Nat} (hcl:callable P f = true) (hc:cFnN P m f = some F.erase) {A:Nat→Ty} {C:Cons} (hC:ConsOk P C) (c:Con) (hm1:m≤c.ps.length) (hm2:m≤c.rs.length) (hsh:(c.ps.drop (c.ps.length - m)).all isSlP = true) (hps:psEq (c.ps.drop (c.ps.length - m)) (c.rs.drop (c.rs.length - m)) = true)
  (h:∀ x,(∀ p∈c.pre x,p)→tfnN F A C m c.ps c.rs x (fun z => z = c.fn x)) (hlen:∀ x,(∀ p∈c.pre x,p)→((valPs c.rs (c.fn x)).drop (c.rs.length - m)).map (fun v => (slEs v).length) = ((valPs c.ps x).drop (c.ps.length - m)).map (fun v => (slEs v).length)):ConNOk P f m c :=
 ⟨hcl,hm1,hm2,hsh,hps,fun x hx => ⟨retn_tfn hc hC hm1 hm2 hsh hps (h x hx),hlen x hx⟩⟩
end

inductive TfN (F:TFn) (A:Nat→Ty) (C:Cons) (m:Nat) (ps rs:List PSh) (x:(tyPs ps).den) (K:(tyPs rs).den→Prop):Prop
 | mk (h:tfnN F A C m ps rs x K):TfN F A C m ps rs x K
omit [Laid] in
theorem tfN_of {F:TFn} {A:Nat→Ty} {C:Cons} {m:Nat} {ps rs:List PSh} {x:(tyPs ps).den} {K:(tyPs rs).den→Prop} {p:Prop} (h0:tfnN F A C m ps rs x K = p) (h:p):TfN F A C m ps rs x K := .mk (by rw [h0]; exact h)
theorem conN_tf {P:Program} {f:FuncId} {F:TFn} {m:Nat} (hcl:callable P f = true) (hc:cFnN P m f = some F.erase) {A:Nat→Ty} {C:Cons} (hC:ConsOk P C) (c:Con) (hm1:m≤c.ps.length) (hm2:m≤c.rs.length) (hsh:(c.ps.drop (c.ps.length - m)).all isSlP = true) (hps:psEq (c.ps.drop (c.ps.length - m)) (c.rs.drop (c.rs.length - m)) = true)
  (h:∀ x,(∀ p∈c.pre x,p)→TfN F A C m c.ps c.rs x (fun z => z = c.fn x)) (hlen:∀ x,(∀ p∈c.pre x,p)→((valPs c.rs (c.fn x)).drop (c.rs.length - m)).map (fun v => (slEs v).length) = ((valPs c.ps x).drop (c.ps.length - m)).map (fun v => (slEs v).length)):ConNOk P f m c :=
 conN_tfn hcl hc hC c hm1 hm2 hsh hps (fun x hx => by cases h x hx with | mk h => exact h) hlen
end Go.Mx
