/- Layers of the walk: abstract values, operations, calls, loops, and what they do. No condition. -/
import Derived.Test.YtepdfhjmngbhhaaGreatDoorTxX
namespace Go.Mx
variable [Laid]
open Go.RowKit

omit [Laid] in
theorem LeL.leS {ps qs:List Pv} (h:LeL ps qs):LeS ps qs := ⟨h.1,fun i x y h1 h2 S w v hv => (h.2 i x y h1 h2).rel hv⟩

def finOT (T:TSt) (e:Ty) (res:List ARes) (K:List e.den→Prop):Prop :=
 match resT T res with
 | some [.own s t] => match T.c s with
  | .dyn true t' l => match Nat.beq t'.n t.n,castL t' e l with
   | true,some l' => K l'
   | _,_ => False
  | _ => False
 | some [.nil] => K []
 | _ => False
def tfnO (F:TFn) (A:Nat→Ty) (C:Cons) (ps:List PSh) (e:Ty) (x:(tyPs ps).den) (K:List e.den→Prop):Prop :=
 match Nat.ble ps.length F.nt with
 | true => tev ⟨F.nt,F.ns,0,A,C⟩ F.code (fun ex T => match ex with
  | .exit _ => False
  | _ => finOT T e F.res K) (initT (tvPs ps x))
 | false => False

def finAT (T:TSt) (e:Ty) (res:List ARes) (K:List e.den→Prop):Prop :=
 match resT T res with
 | some [.agg [.own s t]] => match T.c s with
  | .dyn true t' l => match Nat.beq t'.n t.n,castL t' e l with
   | true,some l' => K l'
   | _,_ => False
  | _ => False
 | some [.agg [.nil]] => K []
 | _ => False
def tfnA (F:TFn) (A:Nat→Ty) (C:Cons) (ps:List PSh) (e:Ty) (x:(tyPs ps).den) (K:List e.den→Prop):Prop :=
 match Nat.ble ps.length F.nt with
 | true => tev ⟨F.nt,F.ns,0,A,C⟩ F.code (fun ex T => match ex with
  | .exit _ => False
  | _ => finAT T e F.res K) (initT (tvPs ps x))
 | false => False

def finBT (T:TSt) (k:IntKind) (e:Ty) (res:List ARes) (K:Int×List e.den→Prop):Prop :=
 match resT T res with
 | some [.agg [.i k' z,.own s t]] => match T.c s with
  | .dyn true t' l => match Nat.beq t'.n t.n && decide (k' = k),castL t' e l with
   | true,some l' => K (z,l')
   | _,_ => False
  | _ => False
 | _ => False
def tfnB (F:TFn) (A:Nat→Ty) (C:Cons) (ps:List PSh) (k:IntKind) (e:Ty) (x:(tyPs ps).den) (K:Int×List e.den→Prop):Prop :=
 match Nat.ble ps.length F.nt with
 | true => tev ⟨F.nt,F.ns,0,A,C⟩ F.code (fun ex T => match ex with
  | .exit _ => False
  | _ => finBT T k e F.res K) (initT (tvPs ps x))
 | false => False

section
variable {P:Program}
omit [Laid] in
theorem init_conc (F:TFn) (A:Nat→Ty) (C:Cons) (ps:List PSh) (x:(tyPs ps).den) (hle:ps.length≤F.nt):Conc F.nt F.ns ⟨fun _ => 0,fun _ => 0⟩ (initT (tvPs ps x)) (initSt F.erase (valPs ps x)) := by
 refine ⟨?_,by simp [initSt,TFn.erase],fun n => ?_,fun s => by cases (initSt F.erase (valPs ps x)).hp[s]? <;> trivial,fun _ _ => rfl⟩
 ·simp only [initSt,TFn.erase,List.length_append,List.length_replicate,(valPs_get ps x).1]
  omega
 ·exact listT_rel (tvPs_rel ps x) n _

theorem reto_tfn {f:FuncId} {F:TFn} (hc:cFn P f = some F.erase) {A:Nat→Ty} {C:Cons} (hC:ConsOk P C) {ps:List PSh} {e:Ty} {x:(tyPs ps).den} {y:List e.den} (h:tfnO F A C ps e x (fun z => z = y)) :
  RetO P f (valPs ps x) (fun t ver => .ref t ver 0 y.length e.n) (((List.map e.enc y).flatten).map .p) := by
 unfold tfnO at h
 split at h
 rotate_left
 ·exact h.elim
 rename_i hle
 have hle := Nat.le_of_ble_eq_true hle
 have hinit := init_conc F A C ps x hle
 have hrun := tev_sound (P := P) (X := ⟨F.nt,F.ns,0,A,C⟩) hC F.code _ _ _ _ hinit h
 refine reto_of hc (awp_mono _ _ _ _ ?_ hrun)
 rintro ex s ⟨E',T',hk,hcon,_,_⟩
 have fin:finOT T' e F.res (fun z => z = y)→∃ v ps',resV s F.erase.res = some v∧ownV s.hp v y.length e.n ps'∧LeS ps' (List.map e.enc y).flatten := by
  intro hf
  unfold finOT at hf
  split at hf
  ·rename_i s0 t hvs
   obtain ⟨us,h1,h2⟩ := resT_rel hcon hvs
   obtain ⟨u,rfl,hu⟩ : ∃ u,us = [u]∧TRel E' (.own s0 t) u := by
    match us,h2.1 with
    | [u],_ => exact ⟨u,rfl,h2.2 0 _ u rfl rfl⟩
   split at hf
   ·rename_i t' l hl
    split at hf
    ·rename_i l' hn hcast
     subst hf
     have hn := Nat.eq_of_beq_eq_true hn
     obtain ⟨b,q1,q2,q3,q4,q5,es,q6,q7⟩ := dyn_blk hcon hl
     obtain ⟨e1,e2⟩ := castL_le hcast
     rw [e2] at q7
     have hll:l.length = l'.length := by have := congrArg List.length e2; simpa using this
     refine ⟨u,es.flatten,by simp only [resV,TFn.erase,h1],.inr ⟨s0,b,?_,q1,q4,q6⟩,q7.flat.leS⟩
     rw [hu.inv_own,q2,q5,hll,← hn,e1]
    ·exact hf.elim
   ·exact hf.elim
  ·rename_i hvs
   subst hf
   obtain ⟨us,h1,h2⟩ := resT_rel hcon hvs
   obtain ⟨u,rfl,hu⟩ : ∃ u,us = [u]∧TRel E' .nil u := by
    match us,h2.1 with
    | [u],_ => exact ⟨u,rfl,h2.2 0 _ u rfl rfl⟩
   obtain ⟨k,rfl⟩ := hu.inv_nil
   exact ⟨_,[],by simp only [resV,TFn.erase,h1],.inl ⟨k,rfl,rfl,rfl⟩,.refl _⟩
  ·exact hf.elim
 cases ex with
 | normal => exact fin hk
 | ret => exact fin hk
 | exit id => exact hk.elim

omit [Laid] in
theorem agg1_inv {E:Env} {c:TV} {u:V} (h:TRel E (.agg [c]) u):∃ v,[u] = [V.agg [v]]∧TRel E c v := by
 cases h with
 | pure _ p h => obtain ⟨q,h1,_⟩ := h; simp [can] at h1
 | agg _ vs hn h =>
  match vs,hn with
  | [v],_ => exact ⟨v,rfl,h 0 c v rfl rfl⟩

theorem retoA_tfn {f:FuncId} {F:TFn} (hc:cFn P f = some F.erase) {A:Nat→Ty} {C:Cons} (hC:ConsOk P C) {ps:List PSh} {e:Ty} {x:(tyPs ps).den} {y:List e.den} (h:tfnA F A C ps e x (fun z => z = y)) :
  RetO P f (valPs ps x) (fun t ver => .agg [.ref t ver 0 y.length e.n]) (((List.map e.enc y).flatten).map .p) := by
 unfold tfnA at h
 split at h
 rotate_left
 ·exact h.elim
 rename_i hle
 have hle := Nat.le_of_ble_eq_true hle
 have hinit := init_conc F A C ps x hle
 have hrun := tev_sound (P := P) (X := ⟨F.nt,F.ns,0,A,C⟩) hC F.code _ _ _ _ hinit h
 refine reto_ofW true hc (awp_mono _ _ _ _ ?_ hrun)
 rintro ex s ⟨E',T',hk,hcon,_,_⟩
 have fin:finAT T' e F.res (fun z => z = y)→∃ v ps',resV s F.erase.res = some (wrapV true v)∧ownV s.hp v y.length e.n ps'∧LeS ps' (List.map e.enc y).flatten := by
  intro hf
  unfold finAT at hf
  split at hf
  ·rename_i s0 t hvs
   obtain ⟨us,h1,h2⟩ := resT_rel hcon hvs
   obtain ⟨u,rfl,hu⟩ : ∃ u,us = [.agg [u]]∧TRel E' (.own s0 t) u := by
    match us,h2.1 with
    | [u],_ => exact agg1_inv (h2.2 0 _ u rfl rfl)
   split at hf
   ·rename_i t' l hl
    split at hf
    ·rename_i l' hn hcast
     subst hf
     have hn := Nat.eq_of_beq_eq_true hn
     obtain ⟨b,q1,q2,q3,q4,q5,es,q6,q7⟩ := dyn_blk hcon hl
     obtain ⟨e1,e2⟩ := castL_le hcast
     rw [e2] at q7
     have hll:l.length = l'.length := by have := congrArg List.length e2; simpa using this
     refine ⟨u,es.flatten,by simp only [resV,TFn.erase,h1,wrapV],.inr ⟨s0,b,?_,q1,q4,q6⟩,q7.flat.leS⟩
     rw [hu.inv_own,q2,q5,hll,← hn,e1]
    ·exact hf.elim
   ·exact hf.elim
  ·rename_i hvs
   subst hf
   obtain ⟨us,h1,h2⟩ := resT_rel hcon hvs
   obtain ⟨u,rfl,hu⟩ : ∃ u,us = [.agg [u]]∧TRel E' .nil u := by
    match us,h2.1 with
    | [u],_ => exact agg1_inv (h2.2 0 _ u rfl rfl)
   obtain ⟨k,rfl⟩ := hu.inv_nil
   exact ⟨_,[],by simp only [resV,TFn.erase,h1,wrapV],.inl ⟨k,rfl,rfl,rfl⟩,.refl _⟩
  ·exact hf.elim
 cases ex with
 | normal => exact fin hk
 | ret => exact fin hk
 | exit id => exact hk.elim

theorem conO_tfn {f:FuncId} {F:TFn} (hcl:callable P f = true) (hc:cFn P f = some F.erase) {A:Nat→Ty} {C:Cons} (hC:ConsOk P C) {ps:List PSh} {e:Ty} {pre:(tyPs ps).den→List Prop} {fn:(tyPs ps).den→(tyPs [.one (.sl e)]).den}
  (h:∀ x,(∀ p∈pre x,p)→tfnO F A C ps e x (fun z => z = fn x)):ConOOk P f ⟨ps,[.one (.sl e)],pre,fn⟩ :=
 ⟨hcl,fun x hx => reto_tfn hc hC (h x hx)⟩
theorem conA_tfn {f:FuncId} {F:TFn} (hcl:callable P f = true) (hc:cFn P f = some F.erase) {A:Nat→Ty} {C:Cons} (hC:ConsOk P C) {ps:List PSh} {e:Ty} {pre:(tyPs ps).den→List Prop} {fn:(tyPs ps).den→(tyPs [.agg (.sl e)]).den}
  (h:∀ x,(∀ p∈pre x,p)→tfnA F A C ps e x (fun z => z = fn x)):ConOOk P f ⟨ps,[.agg (.sl e)],pre,fn⟩ :=
 ⟨hcl,fun x hx => retoA_tfn hc hC (h x hx)⟩
end

inductive TfO (F:TFn) (A:Nat→Ty) (C:Cons) (ps:List PSh) (e:Ty) (x:(tyPs ps).den) (K:List e.den→Prop):Prop
 | mk (h:tfnO F A C ps e x K):TfO F A C ps e x K
omit [Laid] in
theorem tfo_of {F:TFn} {A:Nat→Ty} {C:Cons} {ps:List PSh} {e:Ty} {x:(tyPs ps).den} {K:List e.den→Prop} {p:Prop} (h0:tfnO F A C ps e x K = p) (h:p):TfO F A C ps e x K := .mk (by rw [h0]; exact h)
theorem conO_tf {P:Program} {f:FuncId} {F:TFn} (hcl:callable P f = true) (hc:cFn P f = some F.erase) {A:Nat→Ty} {C:Cons} (hC:ConsOk P C) {ps:List PSh} {e:Ty} {pre:(tyPs ps).den→List Prop} {fn:(tyPs ps).den→(tyPs [.one (.sl e)]).den}
  (h:∀ x,(∀ p∈pre x,p)→TfO F A C ps e x (fun z => z = fn x)):ConOOk P f ⟨ps,[.one (.sl e)],pre,fn⟩ :=
 conO_tfn hcl hc hC fun x hx => by cases h x hx with | mk h => exact h

inductive TfA (F:TFn) (A:Nat→Ty) (C:Cons) (ps:List PSh) (e:Ty) (x:(tyPs ps).den) (K:List e.den→Prop):Prop
 | mk (h:tfnA F A C ps e x K):TfA F A C ps e x K
omit [Laid] in
theorem tfa_of {F:TFn} {A:Nat→Ty} {C:Cons} {ps:List PSh} {e:Ty} {x:(tyPs ps).den} {K:List e.den→Prop} {p:Prop} (h0:tfnA F A C ps e x K = p) (h:p):TfA F A C ps e x K := .mk (by rw [h0]; exact h)
theorem conA_tf {P:Program} {f:FuncId} {F:TFn} (hcl:callable P f = true) (hc:cFn P f = some F.erase) {A:Nat→Ty} {C:Cons} (hC:ConsOk P C) {ps:List PSh} {e:Ty} {pre:(tyPs ps).den→List Prop} {fn:(tyPs ps).den→(tyPs [.agg (.sl e)]).den}
  (h:∀ x,(∀ p∈pre x,p)→TfA F A C ps e x (fun z => z = fn x)):ConOOk P f ⟨ps,[.agg (.sl e)],pre,fn⟩ :=
 conA_tfn hcl hc hC fun x hx => by cases h x hx with | mk h => exact h

inductive TfB (F:TFn) (A:Nat→Ty) (C:Cons) (ps:List PSh) (k:IntKind) (e:Ty) (x:(tyPs ps).den) (K:Int×List e.den→Prop):Prop
 | mk (h:tfnB F A C ps k e x K):TfB F A C ps k e x K
def ioTV:Nat→List TV→List TV
 | _,[] => []
 | j,.sl e _ :: r => .own j e :: ioTV (j + 1) r
 | j,_ :: r => .und :: ioTV (j + 1) r
def ioTC:List TV→Nat→TC
 | .sl e l :: _,0 => .dyn true e l
 | _ :: r,s + 1 => ioTC r s
 | _,_ => .dead
def initN (m:Nat) (vs:List TV):TSt := ⟨listT (vs.take (vs.length - m) ++ ioTV 0 (vs.drop (vs.length - m))),ioTC (vs.drop (vs.length - m)),fun _ => 0,fun _ => 0⟩
def ioBack (T:TSt):Nat→Nat→List TV
 | 0,_ => []
 | m + 1,j => (match T.c j with
  | .dyn true t _ => .own j t
  | _ => .und) :: ioBack T m (j + 1)
def sameV (T:TSt):Nat→Nat→Bool
 | 0,_ => true
 | m + 1,j => Nat.beq (T.v j) 0 && sameV T m (j + 1)
def finNT (m:Nat) (T:TSt) (rs:List PSh) (res:List ARes) (K:(tyPs rs).den→Prop):Prop :=
 match resT T res with
 | some vs => match sameV T m 0 && Nat.beq vs.length (rs.length - m) && vs.all isPure,packPs T.c rs (vs ++ ioBack T m 0) with
  | true,some z => K z
  | _,_ => False
 | none => False
def tfnN (F:TFn) (A:Nat→Ty) (C:Cons) (m:Nat) (ps rs:List PSh) (x:(tyPs ps).den) (K:(tyPs rs).den→Prop):Prop :=
 match Nat.ble ps.length F.nt with
 | true => tev ⟨F.nt,F.ns + m,m,A,C⟩ F.code (fun ex T => match ex with
  | .exit _ => False
  | _ => finNT m T rs F.res K) (initN m (tvPs ps x))
 | false => False

section
variable {P:Program}
end

inductive TfN (F:TFn) (A:Nat→Ty) (C:Cons) (m:Nat) (ps rs:List PSh) (x:(tyPs ps).den) (K:(tyPs rs).den→Prop):Prop
 | mk (h:tfnN F A C m ps rs x K):TfN F A C m ps rs x K
end Go.Mx
