/- Layers of the walk: abstract values, operations, calls, loops, and what they do. No condition. -/
import Derived.Test.YtepdfhjmngbhhaaGreatDoorTxF
namespace Go.Mx
variable [Laid]
section
variable {E:Env} {nt ns:Nat} {T:TSt} {st:St}

omit [Laid] in
theorem flat_drop {k:Nat}:∀ {es:List (List Pv)} {a:Nat},(∀ e∈es,e.length = k)→es.flatten.drop (a * k) = (es.drop a).flatten
 | [],a,_ => by simp
 | e :: es,0,_ => by simp
 | e :: es,a + 1,h => by
  have he:e.length = k := h e (by simp)
  rw [List.flatten_cons,List.drop_succ_cons,Nat.succ_mul,Nat.add_comm,← List.drop_drop,← he,List.drop_left,he]
  exact flat_drop fun e he => h e (by simp [he])
omit [Laid] in
theorem flat_take {k:Nat}:∀ {es:List (List Pv)} {a:Nat},(∀ e∈es,e.length = k)→es.flatten.take (a * k) = (es.take a).flatten
 | [],a,_ => by simp
 | e :: es,0,_ => by simp
 | e :: es,a + 1,h => by
  have he:e.length = k := h e (by simp)
  rw [List.flatten_cons,List.take_succ_cons,List.flatten_cons,List.take_append,List.take_of_length_le (by rw [he,Nat.succ_mul]; omega),he,show (a + 1) * k - k = a * k by rw [Nat.succ_mul]; omega]
  congr 1
  exact flat_take fun e he => h e (by simp [he])

omit [Laid] in
theorem wr_mid {α:Type}:∀ (us A B C:List α) (j:Nat),j + us.length≤B.length→wr (A ++ B ++ C) (A.length + j) us = A ++ wr B j us ++ C
 | [],A,B,C,j,_ => rfl
 | u :: us,A,B,C,j,h => by
  simp only [List.length_cons] at h
  rw [wr,wr]
  have:(A ++ B ++ C).set (A.length + j) u = A ++ B.set j u ++ C := by
   rw [List.append_assoc,List.set_append_right _ _ (by omega),List.set_append_left _ _ (by omega),List.append_assoc]
   simp
  rw [this,Nat.add_assoc]
  exact wr_mid us A (B.set j u) C (j + 1) (by simp; omega)
omit [Laid] in
theorem set_flat {es:List (List Pv)} {i:Nat} {qs:List Pv} (h:i < es.length):(es.take i).flatten ++ qs ++ (es.drop (i + 1)).flatten = (es.set i qs).flatten := by
 rw [List.set_eq_take_append_cons_drop,if_pos h,List.flatten_append,List.flatten_cons,List.append_assoc]

omit [Laid] in
theorem purSl {v:V} {p:Pv} (h:fP v = some p):v = .p p := by
 cases v with
 | p x => simp only [fP,sJ] at h; subst h; rfl
 | _ => cases h

omit [Laid] in
theorem implSl_rel (h:Conc nt ns E T st) {e:Ty} {c:TV} {v:V} {l:List e.den} (hi:implSl T.c e (implode e deadC) c = some l) (hv:TRel E c v) :
  ∃ es,sliceP st.hp e.n v = some es∧LeLL es (List.map e.enc l)∧∃ p,purC st.hp v = some p∧PvLe p (.sl e.n (List.map e.enc l) false) := by
 have fromP:implSl deadC e (implode e deadC) c = some l→∃ es,sliceP st.hp e.n v = some es∧LeLL es (List.map e.enc l)∧∃ p,purC st.hp v = some p∧PvLe p (.sl e.n (List.map e.enc l) false) := by
  intro hd
  obtain ⟨p,h1,h2⟩ := implSl_dead hd hv
  rw [purSl h1]
  obtain ⟨k,es,f,rfl,hk,_,hle⟩ := h2.inv_sl
  refine ⟨es,?_,hle,_,rfl,h2⟩
  cases es with
  | nil => rfl
  | cons a r => simp only [sliceP]; rcases hk with hk | hk; cases hk; rw [if_pos hk]
 have pc:∀ {s ver o n k:Nat} {es:List (List Pv)},sliceP st.hp k (.ref s ver o n k) = some es→purC st.hp (.ref s ver o n k) = some (.sl k es false) := by
  intro s ver o n k es h; simp only [purC,h,Option.map_some]
 cases c with
 | sl t l' => exact fromP hi
 | nil => exact fromP hi
 | own s t =>
  simp only [implSl] at hi
  split at hi
  ·rename_i live t' l' hl
   split at hi
   ·rename_i ht
    have ht := of_decide_eq_true ht
    obtain ⟨b,k1,k2,k3,k4,k5,es,k6,k7⟩ := dyn_blk h hl
    obtain ⟨e1,e2⟩ := castL_le hi
    have hn := lell_n k7
    have hs:sliceP st.hp e.n v = some es := by
     rw [hv.inv_own,k5,← hn,ht,e1]
     have := m_sliceP_ref (hp := st.hp) k1 k2 k3 k6 (lell_len k7)
     rw [e1] at this; exact this
    refine ⟨es,hs,by rw [← e2]; exact k7,.sl e.n es false,?_,.sl' (.inr rfl) (fun e => e) (by rw [← e2]; exact k7)⟩
    have hv' := hv.inv_own
    rw [ht,e1] at hv'
    rw [hv'] at hs ⊢
    exact pc hs
   ·cases hi
  ·cases hi
 | vd s t lo n =>
  simp only [implSl] at hi
  split at hi
  ·rename_i live t' l' hl
   split at hi
   ·rename_i l2 ht hc
    simp only [sJ] at hi; subst hi
    have ht := of_decide_eq_true ht
    obtain ⟨b,k1,k2,k3,k4,k5,es,k6,k7⟩ := dyn_blk h hl
    obtain ⟨e1,e2⟩ := castL_le hc
    have hn := lell_n k7
    obtain ⟨h0,h1,h2,hv'⟩ := hv.inv_vd
    have hlen := lell_len k7
    have hl2:l2.length = l'.length := by have := congrArg List.length e2; simpa using this.symm
    have hsub := k7.map_sl lo.toNat n.toNat
    have e3:List.map t'.enc ((l'.drop lo.toNat).take n.toNat) = List.map e.enc ((l2.drop lo.toNat).take n.toNat) := by
     rw [List.map_take,List.map_drop,e2,← List.map_drop,← List.map_take]
    have hs:sliceP st.hp e.n v = some ((es.drop lo.toNat).take n.toNat) := by
     rw [hv',ht,← e1]
     have hfl := flat_len es hlen
     have hcells:(b.cs.drop (lo.toNat * t'.n)).take (n.toNat * t'.n) = (((es.drop lo.toNat).take n.toNat).flatten).map V.p := by
      rw [k6,← List.map_drop,← List.map_take]
      congr 1
      rw [flat_drop hlen,flat_take (fun e he => hlen e (List.mem_of_mem_drop he))]
     have hn3:((es.drop lo.toNat).take n.toNat).length = n.toNat := by simp; omega
     simp only [sliceP,k1]
     have hmul:(lo.toNat + n.toNat) * t'.n≤es.length * t'.n := Nat.mul_le_mul_right _ (by omega)
     rw [Nat.add_mul] at hmul
     rw [if_pos ⟨k2,k3,trivial,by rw [k6,List.length_map,hfl]; exact hmul⟩,hcells,allP_mapP]
     simp only [Option.map_some]
     congr 1
     have := chunk_flat (k := t'.n) ((es.drop lo.toNat).take n.toNat) (fun e he => hlen e (List.mem_of_mem_drop (List.mem_of_mem_take he)))
     rw [hn3] at this; exact this
    refine ⟨_,hs,by rw [← e3]; exact hsub,.sl e.n _ false,?_,.sl' (.inr rfl) (fun e => e) (by rw [← e3]; exact hsub)⟩
    rw [hv',ht,e1] at hs ⊢
    exact pc hs
   ·cases hi
  ·cases hi
 | vc s o n k =>
  simp only [implSl] at hi
  split at hi
  ·rename_i live cs hl
   split at hi
   ·rename_i hk
    have hk := of_decide_eq_true hk
    obtain ⟨rfl,hle⟩ := hk
    obtain ⟨b,k1,k2,k3,k4,k5⟩ := cells_blk h hl
    have hlen:((cs.drop o).take (n * e.n)).length = n * e.n := by rw [List.length_take,List.length_drop]; omega
    have hi' : impN e n ((cs.drop o).take (n * e.n)) = some l := hi
    obtain ⟨es,g1,g2,g3,g4,ps,g5,g6⟩ := impN_rel hi' ((k5.drop o).take (n * e.n)) hlen
    have hs:sliceP st.hp e.n v = some es := by
     rw [hv.inv_vc]
     simp only [sliceP,k1]
     rw [if_pos ⟨k2,k3,trivial,by rw [k5.1]; exact hle⟩,g5]
     simp only [Option.map_some,g6]
    refine ⟨es,hs,g2,.sl e.n es false,?_,.sl' (.inr rfl) (fun e => e) g2⟩
    rw [hv.inv_vc] at hs ⊢
    exact pc hs
   ·cases hi
  ·cases hi
 | _ => simp [implSl] at hi

omit [Laid] in
theorem tstate_sound {A:Nat→Ty} {raw:Opd→TV} {g:Opd→V} (h:Conc nt ns E T st) (hraw:∀ x,TRel E (raw x) (g x)) {op:AOp} {ps:List Prop} {tv:TV} {T' : TSt} (hop:tstate ns A T raw op = some (ps,tv,T')) (hps:∀ p∈ps,p) :
  ∃ v hp' E',astep st.hp g op = some (v,hp')∧Conc nt ns E' T' ⟨st.ts,hp'⟩∧Hist E T E' T'∧TRel E' tv v := by
 have rd:∀ x,TRel E (unopt (raw x)) (g x) := fun x => unopt_rel (hraw x)
 have rdA:∀ x,TRel E (unoptA (raw x)) (g x) := fun x => unoptA_rel (hraw x)
 have slot:∀ s,s < ns→∃ b,st.hp[s]? = some b := fun s hs => ⟨_,List.getElem?_eq_getElem (by rw [h.lh]; exact hs)⟩
 cases op
 case newz s cs =>
  simp only [tstate] at hop
  split at hop
  ·rename_i hs
   simp only [sJ,pJ] at hop; obtain ⟨_,rfl,rfl⟩ := hop
   obtain ⟨b,hb⟩ := slot s hs
   obtain ⟨h1,h2⟩ := alloc_conc (ver := b.ver + 1) (len := 0) (cs := cs) h hb (c := .cells true (cs.map ofC1)) ⟨Env.at_vr.symm,rfl,rfl,by simp,fun i c v h1 h2 => by
    rw [List.getElem?_map,h2] at h1
    simp only [Option.map_some,sJ] at h1; subst h1
    exact ofC1_rel v⟩
   refine ⟨.ptr s (b.ver + 1) 0,_,_,by simp only [astep,hb],h1,h2,?_⟩
   have := TRel.ptr (E := E.at s (b.ver + 1) 0) s 0 [] trivial
   rw [Env.at_vr] at this; exact this
  ·cases hop
 case box s x =>
  simp only [tstate] at hop
  split at hop
  ·rename_i cs hcs
   obtain ⟨vs,k1,k2⟩ := cellsT_rel (rd x) hcs
   split at hop
   ·rename_i hs
    simp only [sJ,pJ] at hop; obtain ⟨_,rfl,rfl⟩ := hop
    obtain ⟨b,hb⟩ := slot s hs
    obtain ⟨h1,h2⟩ := alloc_conc (ver := b.ver + 1) (len := 0) (cs := vs) h hb (c := .cells true (cs.map (killS s))) ⟨Env.at_vr.symm,rfl,rfl,killL_rel k2⟩
    refine ⟨.ptr s (b.ver + 1) 0,_,_,by simp only [astep,hb,k1],h1,h2,?_⟩
    have := TRel.ptr (E := E.at s (b.ver + 1) 0) s 0 [] trivial
    rw [Env.at_vr] at this; exact this
   ·cases hop
  ·cases hop
 case bsl own s k n z parts =>
  cases own with
  | false => simp [tstate] at hop
  | true =>
   simp only [tstate] at hop
   split at hop
   ·rename_i cs hcs
    split at hop
    ·rename_i hk
     obtain ⟨hs,hk,hn⟩ := hk
     split at hop
     ·rename_i l hl
      simp only [sJ,pJ] at hop; obtain ⟨_,rfl,rfl⟩ := hop
      obtain ⟨r,h1,h2⟩ := fillT_rel rd (cs := z.map ofC1) (vs := z.map id) (LRel.map fun x _ => ofC1_rel x) hcs
      rw [List.map_id] at h1
      obtain ⟨es,g1,g2,g3,g4,qs,g5,g6⟩ := impN_rel hl h2 (by rw [hn,hk])
      obtain ⟨b,hb⟩ := slot s hs
      obtain ⟨c1,c2⟩ := alloc_conc (ver := b.ver + 1) (len := n) (cs := r) h hb (c := .dyn true (A s) l) ⟨Env.at_vr.symm,rfl,rfl,by rw [Env.at_ln,g4],es,g1,g2⟩
      refine ⟨.ref s (b.ver + 1) 0 n k,_,_,by simp only [astep,h1,if_true,hb],c1,c2,?_⟩
      have := TRel.own (E := E.at s (b.ver + 1) n) s (A s)
      rw [Env.at_vr,Env.at_ln,hk] at this; exact this
     ·cases hop
    ·cases hop
   ·cases hop
 case st n x v =>
  have hx := rd x
  simp only [tstate] at hop
  split at hop
  ·rename_i vs hvs
   obtain ⟨us,k1,k2⟩ := cellsT_rel (rd v) hvs
   split at hop
   ·rename_i hc
    obtain ⟨hn0,hn,hok⟩ := hc
    have hall:us.all okCell = true := by
     rw [List.all_eq_true] at hok ⊢
     intro u hu
     obtain ⟨i,hi⟩ := List.mem_iff_getElem?.1 hu
     obtain ⟨c,hc⟩ := get_of_len k2.1 hi
     have h1 := hok c (List.mem_of_getElem? hc)
     have h2 := k2.2 i c u hc hi
     cases h2 <;> first | rfl | simp [okT] at h1
    have hne:vs ≠ [] := fun e => by subst e; simp at hn; omega
    have hun:us.length = n := k2.1.trans hn
    split at hop
    ·rename_i s o ds hxa
     rw [hxa] at hx
     obtain ⟨hd,he⟩ := hx.inv_ptr
     split at hop
     ·rename_i cs hl
      split at hop
      ·rename_i cs' hw
       simp only [sJ,pJ] at hop; obtain ⟨_,rfl,rfl⟩ := hop
       obtain ⟨b,q1,q2,q3,q4,q5⟩ := cells_blk h hl
       have hr := wrD_rel k2 hw hd q5
       simp only [gB,if_true] at hr
       have hlive:b.st.isLive = true := by rw [q4]; rfl
       have hle := hr.2 hne
       obtain ⟨c1,c2⟩ := write_conc h q1 (c := .cells true cs') (b' := ⟨E.vr s,.live,wr b.cs (o + dsOff ds) us⟩) ⟨rfl,rfl,rfl,hr.1⟩
       refine ⟨.und,_,_,?_,c1,c2,.und _⟩
       simp only [astep,he,k1,q1]
       rw [if_pos ⟨q2,hlive,hun,by rw [q5.1]; omega,hall⟩]
      ·cases hop
     ·cases hop
    ·rename_i s t i j hxa
     rw [hxa] at hx
     obtain ⟨h0,h1,he⟩ := hx.inv_pd
     split at hop
     ·rename_i t' l hl
      split at hop
      ·rename_i ht
       split at hop
       ·rename_i z hz
        simp only [sJ,pJ] at hop; obtain ⟨_,rfl,rfl⟩ := hop
        obtain ⟨b,q1,q2,q3,q4,q5,es,q6,q7⟩ := dyn_blk h hl
        have hlive:b.st.isLive = true := by rw [q4]; rfl
        have hi:i.toNat < l.length := by rw [← q5]; omega
        have hlen := lell_len q7
        have hn := lell_n q7
        have hie:i.toNat < es.length := by omega
        have hcells := dyn_cells (E := E) q7 hi
        have hwr := k2.wr hcells j
        obtain ⟨qs,g1,g2,g3⟩ := imp1_rel hz hwr
        have hfl := flat_len es hlen
        have hmul:(i.toNat + 1) * t'.n≤es.length * t'.n := Nat.mul_le_mul_right _ hie
        rw [Nat.succ_mul] at hmul
        have hA:((es.take i.toNat).flatten.map V.p).length = i.toNat * t'.n := by
         rw [List.length_map,flat_len _ (fun e he => hlen e (List.mem_of_mem_take he)),List.length_take,Nat.min_eq_left (Nat.le_of_lt hie)]
        have hcs:b.cs = (es.take i.toNat).flatten.map V.p ++ ((es.flatten.map V.p).drop (i.toNat * t'.n)).take t'.n ++ (es.drop (i.toNat + 1)).flatten.map V.p := by
         rw [q6,← List.map_drop,← List.map_take,← List.map_append,← List.map_append]
         congr 1
         have e1:(es.drop (i.toNat + 1)).flatten = (es.flatten.drop (i.toNat * t'.n)).drop t'.n := by
          rw [← flat_drop hlen,List.drop_drop,show (i.toNat + 1) * t'.n = i.toNat * t'.n + t'.n from Nat.succ_mul _ _]
         rw [e1,← flat_take hlen,List.append_assoc,List.take_append_drop,List.take_append_drop]
        have hnew:wr b.cs (i.toNat * t.n + j) us = (es.set i.toNat qs).flatten.map V.p := by
         have hm := wr_mid us ((es.take i.toNat).flatten.map V.p) (((es.flatten.map V.p).drop (i.toNat * t'.n)).take t'.n) ((es.drop (i.toNat + 1)).flatten.map V.p) j (by
          rw [List.length_take,List.length_drop,List.length_map,hfl,hun]; omega)
         rw [hA] at hm
         rw [hcs,← ht.1,hm,g1,← List.map_append,← List.map_append,set_flat hie]
        obtain ⟨c1,c2⟩ := write_conc h q1 (c := .dyn true t' (l.set i.toNat z)) (b' := ⟨E.vr s,.live,wr b.cs (i.toNat * t.n + j) us⟩) ⟨rfl,rfl,rfl,by rw [q5]; simp,es.set i.toNat qs,hnew,by
         refine ⟨by have := q7.1; simp at this ⊢; exact this,fun a e e' he he' => ?_⟩
         rw [List.getElem?_set] at he
         rw [List.map_set,List.getElem?_set] at he'
         by_cases ea:i.toNat = a
         ·subst ea
          rw [if_pos rfl,if_pos hie] at he
          rw [if_pos rfl,if_pos (by simpa using hi)] at he'
          simp only [sJ] at he he'; subst he he'
          exact g2
         ·rw [if_neg ea] at he he'
          exact q7.2 a e e' he he'⟩
        refine ⟨.und,_,_,?_,c1,c2,.und _⟩
        simp only [astep,he,k1,q1]
        rw [if_pos ⟨q2,hlive,hun,by rw [q6,List.length_map,hfl,← ht.1]; omega,hall⟩]
       ·cases hop
      ·cases hop
     ·cases hop
    ·cases hop
   ·cases hop
  ·cases hop
 case mk s k bytes z len =>
  have hl := rd len
  simp only [tstate] at hop
  split at hop
  ·rename_i n hn
   rw [hn] at hl
   split at hop
   ·rename_i hc
    obtain ⟨hs,hk⟩ := hc
    split at hop
    ·rename_i z0 hz
     simp only [sJ,pJ] at hop; obtain ⟨rfl,rfl,rfl⟩ := hop
     obtain ⟨b,hb⟩ := slot s hs
     have hzr:LRel E (z.map ofC1) (z.map id) := LRel.map fun x _ => ofC1_rel x
     rw [List.map_id] at hzr
     obtain ⟨qs,g1,g2,g3⟩ := imp1_rel hz hzr
     have h0:0≤n := hps _ (by simp)
     have h1:bytes * n≤281474976710656 := hps _ (by simp)
     have h2:n≤9223372036854775807 := hps _ (by simp)
     obtain ⟨c1,c2⟩ := alloc_conc (ver := b.ver + 1) (len := n.toNat) (cs := (List.replicate n.toNat z).flatten) h hb (c := .dyn true (A s) (List.replicate n.toNat z0)) ⟨Env.at_vr.symm,rfl,rfl,by rw [Env.at_ln,List.length_replicate],List.replicate n.toNat qs,by
      rw [g1,List.map_flatten,List.map_replicate],by
      refine ⟨by simp,fun i e e' he he' => ?_⟩
      rw [List.map_replicate] at he'
      rw [List.getElem?_replicate] at he he'
      split at he
      ·rename_i hi
       rw [if_pos hi] at he'
       simp only [sJ] at he he'; subst he he'; exact g2
      ·cases he⟩
     refine ⟨.ref s (b.ver + 1) 0 n.toNat k,_,_,by simp only [astep,hb,hl.inv_i]; rw [if_pos ⟨h0,h1,h2⟩],c1,c2,?_⟩
     have := TRel.own (E := E.at s (b.ver + 1) n.toNat) s (A s)
     rw [Env.at_vr,Env.at_ln,hk] at this; exact this
    ·cases hop
   ·cases hop
  ·cases hop
 case app s k bytes x y =>
  have hx := rdA x
  have hy := rd y
  simp only [tstate] at hop
  split at hop
  ·rename_i t l0 hxa
   rw [hxa] at hx
   obtain ⟨k',es0,he,hk',hes0⟩ := hx.inv_fs
   split at hop
   ·rename_i hc
    obtain ⟨hs,hk⟩ := hc
    split at hop
    ·rename_i l1 l2 hl1 hl
     obtain ⟨rfl,rfl⟩ := castL_eq hl1
     simp only [sJ,pJ] at hop; obtain ⟨rfl,rfl,rfl⟩ := hop
     obtain ⟨b,hb⟩ := slot s hs
     obtain ⟨es,g1,g2,_⟩ := implSl_rel h hl hy
     have hn := lell_n g2
     have hn0 := lell_n hes0
     have hb1:(l1.length + l2.length) * bytes≤140737488355328 := hps _ (by simp)
     have hb2:0 < l2.length := hps _ (by simp)
     have hle:LeLL (es0 ++ es) (List.map (A s).enc (l1 ++ l2)) := by
      refine ⟨by have := hes0.1; have := g2.1; simp at *; omega,fun i e e' he he' => ?_⟩
      rw [List.map_append,List.getElem?_append] at he'
      rw [List.getElem?_append] at he
      by_cases hi:i < es0.length
      ·rw [if_pos hi] at he; rw [if_pos (by simp; omega)] at he'; exact hes0.2 i e e' he he'
      ·rw [if_neg hi] at he; rw [if_neg (by simp; omega)] at he'
       rw [List.length_map,← hn0] at he'
       exact g2.2 _ e e' he he'
     obtain ⟨c1,c2⟩ := alloc_conc (ver := b.ver + 1) (len := es0.length + es.length) (cs := (es0 ++ es).flatten.map .p) h hb (c := .dyn true (A s) (l1 ++ l2)) ⟨Env.at_vr.symm,rfl,rfl,by rw [Env.at_ln,hn,hn0,List.length_append],es0 ++ es,rfl,hle⟩
     rw [hk] at g1
     refine ⟨.ref s (b.ver + 1) 0 (es0.length + es.length) k,_,_,?_,c1,c2,?_⟩
     ·cases es0 with
      | nil =>
       simp only [astep,g1,he,hb]
       rw [if_pos (by rw [hn]; simp at hn0; rw [← hn0] at hb1; simpa using hb1)]
       simp
      | cons e0 es0 =>
       simp only [astep,g1,he,hb]
       have hkk:k' = k := by
        rcases hk' with hk' | hk'
        ·cases hk'
        ·rw [hk',hk]
       rw [if_pos ⟨hkk,by rw [hn]; exact hb2,by rw [hn]; simp at hn0; rw [hn0]; exact hb1⟩]
       simp
     ·have := TRel.own (E := E.at s (b.ver + 1) (es0.length + es.length)) s (A s)
      rw [Env.at_vr,Env.at_ln,hk] at this; exact this
    ·cases hop
   ·cases hop
  ·rename_i hxa
   rw [hxa] at hx
   obtain ⟨k',he⟩ := hx.inv_nil
   split at hop
   ·rename_i hc
    obtain ⟨hs,hk⟩ := hc
    split at hop
    ·rename_i l hl
     simp only [sJ,pJ] at hop; obtain ⟨rfl,rfl,rfl⟩ := hop
     obtain ⟨b,hb⟩ := slot s hs
     obtain ⟨es,g1,g2,_⟩ := implSl_rel h hl hy
     have hn := lell_n g2
     have hb1:l.length * bytes≤140737488355328 := hps _ (by simp)
     obtain ⟨c1,c2⟩ := alloc_conc (ver := b.ver + 1) (len := es.length) (cs := es.flatten.map .p) h hb (c := .dyn true (A s) l) ⟨Env.at_vr.symm,rfl,rfl,by rw [Env.at_ln,hn],es,rfl,g2⟩
     rw [hk] at g1
     refine ⟨.ref s (b.ver + 1) 0 es.length k,_,_,by simp only [astep,g1,he,hb]; rw [if_pos (by rw [hn]; exact hb1)],c1,c2,?_⟩
     have := TRel.own (E := E.at s (b.ver + 1) es.length) s (A s)
     rw [Env.at_vr,Env.at_ln,hk] at this; exact this
    ·cases hop
   ·cases hop
  ·rename_i s' t hxa
   rw [hxa] at hx
   split at hop
   ·rename_i t' l0 hl0
    split at hop
    ·rename_i hc
     obtain ⟨hs,hk,hk2⟩ := hc
     split at hop
     ·rename_i l hl
      simp only [sJ,pJ] at hop; obtain ⟨rfl,rfl,rfl⟩ := hop
      obtain ⟨b,q1,q2,q3,q4,q5,es0,q6,q7⟩ := dyn_blk h hl0
      obtain ⟨es,g1,g2,_⟩ := implSl_rel h hl hy
      have hn := lell_n g2
      have hn0 := lell_n q7
      have hb1:(l0.length + l.length) * bytes≤140737488355328 := hps _ (by simp)
      have hlive:b.st.isLive = true := by rw [q4]; rfl
      obtain ⟨c1,c2⟩ := alloc_conc (ver := E.vr s' + 1) (len := l0.length + es.length) (cs := b.cs ++ es.flatten.map .p) h q1 (c := .dyn true t' (l0 ++ l)) ⟨Env.at_vr.symm,rfl,rfl,by rw [Env.at_ln,hn,List.length_append],es0 ++ es,by
       rw [q6,List.flatten_append,List.map_append],by
       refine ⟨by have := q7.1; have := g2.1; simp at *; omega,fun i e e' he he' => ?_⟩
       rw [List.map_append,List.getElem?_append] at he'
       rw [List.getElem?_append] at he
       by_cases hi:i < es0.length
       ·rw [if_pos hi] at he; rw [if_pos (by simp; omega)] at he'; exact q7.2 i e e' he he'
       ·rw [if_neg hi] at he; rw [if_neg (by simp; omega)] at he'
        rw [List.length_map,← hn0] at he'
        exact g2.2 _ e e' he he'⟩
      rw [hk] at g1
      refine ⟨.ref s' (E.vr s' + 1) 0 (l0.length + es.length) k,_,_,?_,c1,c2,?_⟩
      ·have hv := hx.inv_own
       rw [q5] at hv
       simp only [astep,g1,hv,q1]
       rw [if_pos ⟨q2,hlive,hk2,by rw [q6,List.length_map,flat_len es0 (lell_len q7),hn0,hk],by rw [hn]; exact hb1⟩]
      ·have := TRel.own (E := E.at s' (E.vr s' + 1) (l0.length + es.length)) s' t'
       rw [Env.at_vr,Env.at_ln,hk] at this; exact this
     ·cases hop
    ·cases hop
   ·cases hop
  ·cases hop
 all_goals simp [tstate] at hop
end
end Go.Mx
