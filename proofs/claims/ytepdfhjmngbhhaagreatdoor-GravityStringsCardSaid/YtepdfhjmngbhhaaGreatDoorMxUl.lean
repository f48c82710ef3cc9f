/- Layers of the walk: abstract values, operations, calls, loops, and what they do. No condition. -/
import Derived.Test.YtepdfhjmngbhhaaGreatDoorMxU
import Derived.LaidMore
import Derived.LaidLaws
import Derived.Lay
import Derived.MakeChecks
import Derived.HandedShaped
import Derived.Shelf.Vars
namespace Go.Mx
variable [Laid]
open Go.RowKit

omit [Laid] in
theorem laidVars_mem {P:Program} {w:World}:∀ {l:List (String×DataW Unit)} {ps:List MemPlace},DataW.LaidVars P w l ps→∀ {x},x∈l→∃ g t cs fuel p,P.globalNamed x.1 = some g∧(P.globals[g]?).map (·.type) = some t∧w.var? P x.1 = some cs∧DataW.trod (fun _ => ()) P w 0 (fun _ => true) false fuel t cs.toList = some (x.2,p)
 | [],_,_,_,hx => by cases hx
 | (n,d) :: r,_,h,x,hx => by
  obtain ⟨g,t,cs,fuel,p,q,h1,h2,h3,h4,h5,_⟩ := h
  rcases List.mem_cons.1 hx with rfl | hx
  ·exact ⟨g,t,cs,fuel,p,h1,h2,h3,h4⟩
  ·exact laidVars_mem h5 hx

omit [Laid] in
theorem glob_ints {P:Program} {laid:List (String×DataW Unit)} {w:World} (hl:laidMetH P laid w) (hn:(laid.all fun x => x.2.handleName?.isNone) = true) {n:String} {g t e:Nat} {k:IntKind} {zs:List Int}
  (hm:(n,.agg (zs.map fun z => .lit (.int k z)))∈laid) (hg:P.globalNamed n = some g) (ht:(P.globals[g]?).map (·.type) = some t) (ha:P.underlying t = some (.array zs.length e)) (he:P.underlying e = some (.int k)) (hc:P.cellsOf e = 1) :
  VRel (fun _ _ => none) (fun b => b < w.heap.size) w (.ipt (zs.map (.int k))) (.pointer (some ⟨g,0,none⟩)) := by
 rw [MakeChecks.laidMetH_plain _ _ _ hn] at hl
 obtain ⟨ps,hL,_⟩ := hl
 obtain ⟨g',t',cs,fuel,p,h1,h2,h3,h4⟩ := laidVars_mem hL hm
 obtain rfl := Option.some.inj (hg.symm.trans h1)
 obtain rfl := Option.some.inj (ht.symm.trans h2)
 obtain ⟨xs,m,_,ex,_,hlen,hel⟩ := DataW.trod_array ha h4
 have e3:(xs.map (·.1)) = zs.map fun n => .lit (.int k n) := (DataW.agg.inj (Prod.mk.inj ex).1).symm
 have hcell:∀ j,j < zs.length→cs[j]? = some (.int k (zs.getD j 0)) := by
  intro j hj
  have hE := hel j hj
  rw [hc,Nat.mul_one,List.getElem?_eq_getElem (by omega:j < xs.length)] at hE
  obtain ⟨z,e1,e2,_⟩ := DataW.trod_int he hE
  have e4:(xs.map (·.1))[j]? = (zs.map fun n => (DataW.lit (.int k n):DataW Unit))[j]? := by rw [e3]
  rw [List.getElem?_map,List.getElem?_map,List.getElem?_eq_getElem (by omega:j < xs.length),List.getElem?_eq_getElem (by omega:j < zs.length),e2] at e4
  have hz:z = zs.getD j 0 := by
   simp only [Option.map_some,sJ,DataW.lit.injEq,Lit.int.injEq,true_and] at e4
   rw [e4,List.getD,List.getElem?_eq_getElem (by omega:j < zs.length)]; rfl
  rw [← hz]
  have:cs.toList[j]? = some (.int k z) := by
   have h0:((cs.toList.drop j).take 1)[0]? = some (.int k z) := by rw [e1]; rfl
   simpa using h0
  simpa using this
 refine .ipt _ _ _ (fun j => .int k (zs.getD j 0)) ?_ (fun j x hx => ?_) (fun j x hx => ?_)
 ·have h3' := h3
  simp only [World.var?,hg,Option.bind_some] at h3'
  show g < w.heap.size
  cases hh:w.heap[g]? with
  | none => rw [hh] at h3'; cases h3'
  | some c => exact (Array.getElem?_eq_some_iff.1 hh).1
 ·rw [List.getElem?_map] at hx
  have hj:j < zs.length := by
   cases hz:zs[j]? with
   | none => rw [hz] at hx; cases hx
   | some z => exact (List.getElem?_eq_some_iff.1 hz).1
  rw [World.var?_cell hg h3,Nat.zero_add]
  exact hcell j hj
 ·rw [List.getElem?_map] at hx
  cases hz:zs[j]? with
  | none => rw [hz] at hx; cases hx
  | some z =>
   rw [hz] at hx
   simp only [Option.map_some,sJ] at hx
   subst hx
   have:zs.getD j 0 = z := by rw [List.getD,hz]; rfl
   rw [this]; exact .int k z

omit [Laid] in
theorem var_block {P:Program} {w:World} {n:String} {g:Nat} {cs:Array Value} (hg:P.globalNamed n = some g) (h:w.var? P n = some cs):g < w.heap.size∧∃ ty fz,w.heap[g]? = some (.cells cs ty fz) := by
 simp only [World.var?,hg,Option.bind_some] at h
 cases hh:w.heap[g]? with
 | none => rw [hh] at h; cases h
 | some o =>
  rw [hh] at h
  refine ⟨(Array.getElem?_eq_some_iff.1 hh).1,?_⟩
  cases o with
  | cells a ty fz => simp at h; exact ⟨ty,fz,by rw [h]⟩
  | _ => simp at h
omit [Laid] in
theorem glob_tab {P:Program} {laid:List (String×DataW Unit)} {w:World} (hl:laidMetH P laid w) (hn:(laid.all fun x => x.2.handleName?.isNone) = true) {n:String} {g t e:Nat} {k:IntKind} {zs:List Int}
  (hm:(n,.agg (zs.map fun z => .lit (.int k z)))∈laid) (hg:P.globalNamed n = some g) (ht:(P.globals[g]?).map (·.type) = some t) (ha:P.underlying t = some (.array zs.length e)) (he:P.underlying e = some (.int k)) (hc:P.cellsOf e = 1) (hc2:P.cellsOf t = zs.length) :
  g < w.heap.size∧∃ cs ty fz,w.heap[g]? = some (.cells cs ty fz)∧cs = (zs.map fun z => Value.int k z).toArray := by
 rw [MakeChecks.laidMetH_plain _ _ _ hn] at hl
 obtain ⟨ps,hL,_⟩ := hl
 obtain ⟨g',t',cs,fuel,p,h1,h2,h3,h4⟩ := laidVars_mem hL hm
 obtain rfl := Option.some.inj (hg.symm.trans h1)
 obtain rfl := Option.some.inj (ht.symm.trans h2)
 obtain ⟨xs,m,_,ex,hsz,hlen,hel⟩ := DataW.trod_array ha h4
 have e3:(xs.map (·.1)) = zs.map fun n => .lit (.int k n) := (DataW.agg.inj (Prod.mk.inj ex).1).symm
 have hcell:∀ j,j < zs.length→cs[j]? = some (.int k (zs.getD j 0)) := by
  intro j hj
  have hE := hel j hj
  rw [hc,Nat.mul_one,List.getElem?_eq_getElem (by omega:j < xs.length)] at hE
  obtain ⟨z,e1,e2,_⟩ := DataW.trod_int he hE
  have e4:(xs.map (·.1))[j]? = (zs.map fun n => (DataW.lit (.int k n):DataW Unit))[j]? := by rw [e3]
  rw [List.getElem?_map,List.getElem?_map,List.getElem?_eq_getElem (by omega:j < xs.length),List.getElem?_eq_getElem (by omega:j < zs.length),e2] at e4
  have hz:z = zs.getD j 0 := by
   simp only [Option.map_some,sJ,DataW.lit.injEq,Lit.int.injEq,true_and] at e4
   rw [e4,List.getD,List.getElem?_eq_getElem (by omega:j < zs.length)]; rfl
  rw [← hz]
  have:cs.toList[j]? = some (.int k z) := by
   have h0:((cs.toList.drop j).take 1)[0]? = some (.int k z) := by rw [e1]; rfl
   simpa using h0
  simpa using this
 obtain ⟨hlt,ty,fz,hb⟩ := var_block hg h3
 refine ⟨hlt,cs,ty,fz,hb,?_⟩
 have hcs:cs.size = zs.length := by rw [← Array.length_toList,hsz,hc2]
 refine Array.ext (by simp [hcs]) fun i k1 k2 => ?_
 have hi:i < zs.length := by omega
 have := hcell i hi
 rw [Array.getElem?_eq_getElem k1] at this
 rw [Option.some.inj this]
 simp [List.getD,List.getElem?_eq_getElem hi]
omit [Laid] in
theorem glob_ifc {P:Program} {laid:List (String×DataW Unit)} {w:World} (hl:laidMetH P laid w) (hn:(laid.all fun x => x.2.handleName?.isNone) = true) {n:String} {g t:Nat} {name:String} {d:DataW Unit} {ms:Array (String×TypeId)}
  (hm:(n,.iface name d)∈laid) (hg:P.globalNamed n = some g) (ht:(P.globals[g]?).map (·.type) = some t) (hi:P.underlying t = some (.interface ms)):g < w.heap.size∧∃ cs ty fz,w.heap[g]? = some (.cells cs ty fz)∧∃ t p,cs = #[.iface t p] := by
 rw [MakeChecks.laidMetH_plain _ _ _ hn] at hl
 obtain ⟨ps,hL,_⟩ := hl
 obtain ⟨g',t',cs,fuel,p,h1,h2,h3,h4⟩ := laidVars_mem hL hm
 obtain rfl := Option.some.inj (hg.symm.trans h1)
 obtain rfl := Option.some.inj (ht.symm.trans h2)
 obtain ⟨_,u,v,hcs,_⟩ := iface_of_trod hi h4
 obtain ⟨hlt,ty,fz,hb⟩ := var_block hg h3
 exact ⟨hlt,cs,ty,fz,hb,u,v,by rw [← Array.toArray_toList (xs := cs),hcs]⟩
omit [Laid] in
theorem glob_any {P:Program} {w:World} {g:Nat} (h:∃ m,w.cell? ⟨g,0,none⟩ = some (.int .i64 m)):g < w.heap.size∧∃ cs ty fz,w.heap[g]? = some (.cells cs ty fz)∧∃ m,cs[0]? = some (Value.int .i64 m) := by
 obtain ⟨m,h⟩ := h
 cases hh:w.heap[g]? with
 | none => simp [World.cell?,hh] at h
 | some o =>
  refine ⟨(Array.getElem?_eq_some_iff.1 hh).1,?_⟩
  cases o with
  | cells a ty fz => exact ⟨a,ty,fz,rfl,m,by simpa [World.cell?,hh] using h⟩
  | _ => simp [World.cell?,hh] at h
theorem said_of_laids {C:Checked} {os:Os} {f:FuncId} {fn:Func} {s:ChangeSpec} {laid:List (String×DataW Unit)} {H:Type} {enc:TypeId×Value→H} {rt:TypeId} {ss:List (Bool×List Sh)}
  (hplain:(laid.all fun x => x.2.handleName?.isNone) = true) (own:ownKnob C.prog.godebug = none) (started:os.Started) (noInit:C.prog.inits.idxOf? f = none) (hfn:C.prog.funcs[f]? = some fn)
  (witness:∃ (w:World) (tape:Tape) (i:Input),w.os = os∧(w.forCall tape i).Shaped C.prog∧i.vars = []∧Input.okWide C.prog (w.forCall tape i) .any w.heap.size f i ∧
   ((s.pre enc C.prog fn [] false (w.forCall tape i).memory i.args∧laidMetH C.prog laid (w.forCall tape i).memory)∧sizedMet enc C.prog fn (OpenSpec.ofChange s) false (w.forCall tape i).memory i.args)∧({}:Assume).holds C.prog (lone (Frame.enter C.prog f i.args .normal) [] (w.forCall tape i)))
  (hvars:s.vars = []) (hspec:∀ ds:List (DataW H),ds.length = fn.params.size→s.fn H ds = { results := [.lit (.bool true)],args := ds })
  (hl:laidOutB C.prog = true) (hread:(fn.params.toList.all fun t => C.prog.readableRec t && decide (t < C.prog.types.size)) = true) (hrt:fn.resultTypes = #[rt]) (hbool:C.prog.underlying rt = some .bool)
  (hss:optAll (argSh C.prog) fn.params.toList = some ss) (law:∀ us,ArgsV ss us→Ret C.prog f us (.p (.bool true))) (hG:∀ W,laidMetH C.prog laid W→W.ShapedOpen C.prog→Glob (fun b => b < W.heap.size) W) :
  ReturnsInHanded {} C os f .any (fun w args => (s.pre enc C.prog fn [] false w args∧laidMetH C.prog laid w)∧sizedMet enc C.prog fn (OpenSpec.ofChange s) false w args) (s.post enc C.prog fn false true false false) := by
 refine returnsInHanded_of_calls own started noInit witness ?_
 intro w0 tape0 i0 _ hsh _ hok hpre _
 obtain ⟨_,_,_,fn',hfn',_,_,_,_,hval⟩ := hok
 obtain rfl:fn' = fn := Option.some.inj (hfn'.symm.trans hfn)
 obtain ⟨⟨⟨ds,gs,before,hw,_⟩,hL0⟩,_⟩ := hpre
 have hW := DataW.Whole.of_heap (w' := w0.forCall tape0 i0) (by rfl) hw
 have hL:laidMetH C.prog laid (w0.forCall tape0 i0) := by rw [MakeChecks.laidMetH_plain _ _ _ hplain] at hL0 ⊢; exact laidMet.of_heap (w := (w0.forCall tape0 i0).memory) (by rfl) hL0
 generalize w0.forCall tape0 i0 = W at hW hL hsh hval ⊢
 generalize i0.args = args at hW hval ⊢
 generalize w0.heap.size = base at hval
 have key:Calls C.prog f args W fun e W' => ∃ v,e = .returned v∧s.post enc C.prog fn' false true false false W args v W' := by
  have hW' := hW
  obtain ⟨p,q,hA,hV,rfl,hfz,hnd⟩ := hW
  rw [hvars] at hV
  obtain ⟨rfl,rfl⟩ := Go.ChangeShapes.trodVars_none hV
  have hlt:∀ x∈p,x.block < W.heap.size := fun x hx => hW'.lt x (by simp [hx])
  obtain ⟨us,g1,g2,g4,g3⟩ := args_of fn'.params.toList args.toList ds p ss hA hss (fun j t v h1 h2 => ⟨base,hval j t v (by simpa using h1) (by simpa using h2)⟩)
  have hcall := law us g1 W (fun b => b < W.heap.size) args (by simpa using g2) (fun i v hi => by rw [getD_of_list]; exact g3 i v hi) (fun _ e => e) (hG W hL hsh)
  refine (callsIn_wide.1 (hcall.mono ?_))
  rintro e W' ⟨x,S',rfl,_,_,_,hx,hfr⟩
  have hxv:x = .bool true := by cases hx with | p _ _ h => cases h; rfl
  subst hxv
  have hb:Below W.heap.size W W' := hfr.below
  rw [List.all_eq_true] at hread
  have hread' : ∀ t∈fn'.params.toList,C.prog.readableRec t = true∧t < C.prog.types.size := fun t ht => by
   have := hread t ht
   simp only [Bool.and_eq_true,decide_eq_true_eq] at this
   exact this
  have hds:s.fn H (ds ++ []) = { results := [.lit (.bool true)],args := ds } := by
   rw [List.append_nil]; exact hspec ds (by rw [g4]; simp)
  refine ⟨_,rfl,ds,[],p ++ [],[],p,[],hW',?_,?_,?_,hb.frame _,fun h => by cases h⟩
  ·rw [hds,hrt]
   exact Go.ChangeShapes.trodAll_mk1 (shut_bool hbool true)
  ·rw [hds]
   exact trodAll_stays hl hb _ _ _ _ hread' hA hlt (fun x hx => by simpa using hlt x hx)
  ·rw [hds,hvars]
   exact rfl
 refine key.mono fun e W' ⟨v,he,hp⟩ => ?_
 subst he
 exact ChangeSpec.post_blind hp

end Go.Mx
