/- Layers of the walk: abstract values, operations, calls, loops, and what they do. No condition. -/
import Derived.Test.YtepdfhjmngbhhaaGreatDoorTxD
namespace Go.Mx
variable [Laid]
omit [Laid] in
theorem sigC_rel {E:Env} {c:TV} {a:Sigma Ty.den} {v:V} (hc:sigC c = some a) (h:TRel E c v):∃ p q,v = .p p∧PvLe p q∧a.1.enc a.2 = [q] := by
 cases c <;> simp only [sigC,sJ,reduceCtorEq] at hc
 all_goals
  subst hc
  cases h with
  | pure _ p h =>
   obtain ⟨q,h1,h2⟩ := h
   simp only [can,sJ] at h1
   exact ⟨p,q,rfl,h2,by subst h1; rfl⟩
omit [Laid] in
theorem sigCs_rel {E:Env}:∀ {cs:List TV} {a:Sigma Ty.den} {vs:List V},sigCs cs = some a→LRel E cs vs→∃ ps,allP vs = some ps∧LeL ps (a.1.enc a.2)
 | [],a,vs,hc,h => by
  simp only [sigCs,sJ] at hc; subst hc
  have:vs = [] := List.length_eq_zero_iff.1 h.1
  subst this
  exact ⟨[],rfl,rfl,fun j x x' h => by simp at h⟩
 | [c],a,vs,hc,h => by
  obtain ⟨v,vs',rfl,h1,h2⟩ := h.inv_cons
  have:vs' = [] := List.length_eq_zero_iff.1 h2.1
  subst this
  obtain ⟨p,q,rfl,hle,he⟩ := sigC_rel hc h1
  refine ⟨[p],rfl,by rw [he]; rfl,fun j x x' hx hx' => ?_⟩
  rw [he] at hx'
  match j,hx,hx' with
  | 0,hx,hx' => simp at hx hx'; subst hx hx'; exact hle
  | j + 1,hx,_ => simp at hx
 | c :: d :: r,a,vs,hc,h => by
  obtain ⟨v,vs',rfl,h1,h2⟩ := h.inv_cons
  simp only [sigCs] at hc
  split at hc
  ·rename_i a0 b0 ha hb
   simp only [sJ] at hc; subst hc
   obtain ⟨p,q,rfl,hle,he⟩ := sigC_rel ha h1
   obtain ⟨ps,hps,hl⟩ := sigCs_rel (cs := d :: r) hb h2
   refine ⟨p :: ps,by simp only [allP,hps,Option.map_some],?_,fun j x x' hx hx' => ?_⟩
   ·simp only [Ty.enc,he,List.length_append,List.length_cons,List.length_nil,hl.1]; omega
   ·simp only [Ty.enc,he,List.cons_append,List.nil_append] at hx'
    match j,hx,hx' with
    | 0,hx,hx' => simp at hx hx'; subst hx hx'; exact hle
    | j + 1,hx,hx' => exact hl.2 j x x' (by simpa using hx) (by simpa using hx')
  ·cases hc

section
variable {E:Env} {nt ns:Nat} {T:TSt} {st:St}

omit [Laid] in
theorem idxP_ok {c:Bool} {n len:Int} {ps:List Prop} (h:idxP c n len = some ps) (hp:∀ p∈ps,p):0≤n∧n < len := by
 unfold idxP at h
 split at h
 ·split at h
  ·rename_i h0
   simp only [sJ] at h; subst h
   exact ⟨h0,hp _ (by simp)⟩
  ·cases h
 ·simp only [sJ] at h; subst h
  exact ⟨hp _ (by simp),hp _ (by simp)⟩

omit [Laid] in
theorem unP_rel {g:Nat} {bc want:Bool} {x v:TV} {u:V} {ps:List Prop} (h:unP g bc want x = some (ps,v)) (hx:TRel E x u) (hp:∀ p∈ps,p) (hb:bc = want):TRel E v u := by
 unfold unP at h
 split at h
 ·split at h
  ·rename_i hc
   simp only [sJ,pJ] at h; obtain ⟨rfl,rfl⟩ := h
   refine hx.inv_opt ?_
   have := hp _ (List.mem_singleton.2 rfl)
   rw [this,hb,hc.2]
  ·cases h
 ·simp only [sJ,pJ] at h; obtain ⟨_,rfl⟩ := h
  exact hx

omit [Laid] in
theorem unw_p {c:Bool} {x:Pv}:unw c (.p x) = .p x := rfl

omit [Laid] in
theorem pickT_rel {bc:Bool} {X Y v:TV} {x y:V} (h:pickT bc X Y = some v) (hx:bc = true→TRel E X x) (hy:bc = false→TRel E Y y):TRel E v (pickV bc x y) := by
 have hX:∀ q,can X = some q→bc = true→∃ p,x = .p p∧PvLe p q := by
  intro q hq hb
  have := hx hb
  cases this with
  | pure _ p h => obtain ⟨q',h1,h2⟩ := h; rw [hq] at h1; simp only [sJ] at h1; subst h1; exact ⟨p,rfl,h2⟩
  | _ => cases hq
 have hY:∀ q,can Y = some q→bc = false→∃ p,y = .p p∧PvLe p q := by
  intro q hq hb
  have := hy hb
  cases this with
  | pure _ p h => obtain ⟨q',h1,h2⟩ := h; rw [hq] at h1; simp only [sJ] at h1; subst h1; exact ⟨p,rfl,h2⟩
  | _ => cases hq
 unfold pickT at h
 split at h
 ·simp only [sJ] at h; subst h
  cases bc with
  | true => obtain ⟨p,rfl,hp⟩ := hX _ rfl rfl; rw [m_pick_t,unw_p]; exact .ofCan rfl hp
  | false => obtain ⟨p,rfl,hp⟩ := hY _ rfl rfl; rw [m_pick_f,unw_p]; exact .ofCan rfl hp
 ·split at h
  ·rename_i hk
   simp only [sJ] at h; subst h
   subst hk
   cases bc with
   | true => obtain ⟨p,rfl,hp⟩ := hX _ rfl rfl; rw [m_pick_t,unw_p]; exact .ofCan rfl hp
   | false => obtain ⟨p,rfl,hp⟩ := hY _ rfl rfl; rw [m_pick_f,unw_p]; exact .ofCan rfl hp
  ·cases h
 ·split at h
  ·rename_i q hq
   simp only [sJ] at h; subst h
   obtain ⟨e,he⟩ := castL_eq hq
   subst e; subst he
   cases bc with
   | true => obtain ⟨p,rfl,hp⟩ := hX _ rfl rfl; rw [m_pick_t,unw_p]; exact .ofCan rfl hp
   | false => obtain ⟨p,rfl,hp⟩ := hY _ rfl rfl; rw [m_pick_f,unw_p]; exact .ofCan rfl hp
  ·cases h
 ·cases h

omit [Laid] in
theorem binT_rel {op:BinOp} {k:IntKind} {cst:Bool} {a b:Int} {ps:List Prop} {tv:TV} (h:binT op k cst a b = some (ps,tv)) (hp:∀ p∈ps,p):∃ p,binI op k a b = some p∧PT tv p := by
 cases op <;> simp only [binT,sJ,pJ,reduceCtorEq] at h
 case quo =>
  have hb:b ≠ 0∧tv = .i k (k.wrap (a.tdiv b)) := by
   cases cst <;> simp only at h
   ·simp only [sJ,pJ] at h; obtain ⟨rfl,rfl⟩ := h; exact ⟨hp _ (by simp),rfl⟩
   ·split at h
    ·cases h
    ·rename_i h0; simp only [sJ,pJ] at h; exact ⟨h0,h.2.symm⟩
  obtain ⟨h0,rfl⟩ := hb
  exact ⟨_,by simp only [binI,if_neg h0],.i⟩
 case rem =>
  have hb:b ≠ 0∧tv = .i k (a.tmod b) := by
   cases cst <;> simp only at h
   ·simp only [sJ,pJ] at h; obtain ⟨rfl,rfl⟩ := h; exact ⟨hp _ (by simp),rfl⟩
   ·split at h
    ·cases h
    ·rename_i h0; simp only [sJ,pJ] at h; exact ⟨h0,h.2.symm⟩
  obtain ⟨h0,rfl⟩ := hb
  exact ⟨_,by simp only [binI,if_neg h0],.i⟩
 all_goals
  obtain ⟨_,rfl⟩ := h
  first
  | exact ⟨_,rfl,.i⟩
  | exact ⟨_,rfl,.b⟩

omit [Laid] in
theorem eqTs_rel {xs ys:List TV} {us vs:List V} (hx:LRel E xs us) (hy:LRel E ys vs):∀ {l:List (Bool×Nat)} {b:Bool},eqTs xs ys l = some b→eqCells us vs l = some b
 | [],b,h => by simpa [eqTs,eqCells] using h
 | (i,o) :: r,b,h => by
  simp only [eqTs] at h
  split at h
  ·rename_i x y h1 h2
   split at h
   ·rename_i p q h3 h4
    simp only [sJ] at h; subst h
    obtain ⟨u,hu,ru⟩ := hx.get h1
    obtain ⟨v,hv,rv⟩ := hy.get h2
    have hc:eqCell i u v = some p := by
     cases i with
     | true =>
      cases x <;> cases y <;> simp only [eqT1,reduceCtorEq] at h3
      rw [ru.inv_i,rv.inv_i]
      exact h3
     | false =>
      cases x <;> cases y <;> simp only [eqT1,reduceCtorEq] at h3
      rw [ru.inv_b,rv.inv_b]
      exact h3
    simp only [eqCells,hu,hv,hc,eqTs_rel hx hy h4]
   ·cases h
  ·cases h

omit [Laid] in
theorem idxT_get {cs:List TV} {vs:List V} (h:LRel E cs vs) {k len:Nat} {n:Int} {o:Nat} {c:TV} (hc:idxT cs k len n o = some c) (h0:0≤n) (h1:n < (len:Int)):∃ v,vs[n.toNat * k + o]? = some v∧TRel E c v := by
 unfold idxT at hc
 split at hc
 ·rename_i l hl
  obtain ⟨y,hy,hf⟩ := optAll_at (i := n.toNat) (x := n.toNat) hl (List.getElem?_range (by omega))
  have := selT_get hc hy
  subst this
  exact h.get hf
 ·cases hc

omit [Laid] in
theorem idxT_all {cs:List TV} {vs:List V} (h:LRel E cs vs) {k len:Nat} {n:Int} {l:List TV} (hl:optAll (idxT cs k len n) (List.range k) = some l) (h0:0≤n) (h1:n < (len:Int)):l.length = k∧∀ (j:Nat) (c:TV),l[j]? = some c→∃ v,vs[n.toNat * k + j]? = some v∧TRel E c v := by
 have hlen:l.length = k := by have := (optAll_get _ l hl).1; simpa using this
 refine ⟨hlen,fun j c hc => ?_⟩
 have hj:j < k := by rw [← hlen]; exact (List.getElem?_eq_some_iff.1 hc).1
 obtain ⟨y,hy,hf⟩ := optAll_at (i := j) (x := j) hl (by simp [hj])
 rw [hc,sJ] at hy; subst hy
 exact idxT_get h hf h0 h1

omit [Laid] in
theorem tbound_rel {rd:Opd→TV} {g:Opd→V} (hr:∀ x,TRel E (rd x) (g x)) {o:Option Opd} {r:Option Int} (h:boundT rd o = some r) (d:Int):bound g d o = some (r.getD d) := by
 unfold boundT at h
 split at h
 ·simp only [sJ] at h; subst h; rfl
 ·rename_i x
  split at h
  ·rename_i k n hn
   simp only [sJ] at h; subst h
   have := hr x
   rw [hn] at this
   simp only [bound,this.inv_i]
   rfl
  ·cases h

omit [Laid] in
theorem slT_ok {l h:Option Int} {len:Int} (hlen:0≤len) (hp:∀ p∈slT l h len,p):0≤l.getD 0∧l.getD 0≤h.getD len∧h.getD len≤len := by
 cases l <;> cases h <;> simp only [slT,List.mem_cons,List.not_mem_nil,or_false,forall_eq_or_imp,forall_eq] at hp <;> simp <;> first | omega | (obtain ⟨h1,h2,h3⟩ := hp; exact ⟨h1,h2,h3⟩) | (obtain ⟨h1,h2⟩ := hp; exact ⟨h1,h2⟩)
omit [Laid] in
theorem slL_eq {α:Type} {l h:Option Int} {x:List α}:slL l h x = (x.drop (l.getD 0).toNat).take ((h.getD x.length).toNat - (l.getD 0).toNat) := by
 cases l <;> cases h <;> simp [slL]
 exact (List.take_of_length_le (by simp)).symm

omit [Laid] in
theorem LeLL.map_sl {t:Ty} {es:List (List Pv)} {l:List t.den} (h:LeLL es (List.map t.enc l)) (a n:Nat):LeLL ((es.drop a).take n) (List.map t.enc ((l.drop a).take n)) := by
 refine ⟨by have := h.1; simp at this ⊢; omega,fun i e e' h1 h2 => ?_⟩
 rw [List.map_take,List.map_drop] at h2
 rw [List.getElem?_take] at h1 h2
 split at h1
 ·rename_i hi
  rw [if_pos hi] at h2
  rw [List.getElem?_drop] at h1 h2
  exact h.2 _ e e' h1 h2
 ·cases h1

omit [Laid] in
theorem drop_rel {cs:List TV} {ps:List Pv} (hn:cs.length≤ps.length) (h:∀ (i:Nat) (c:TV) (p:Pv),cs[i]? = some c→ps[i]? = some p→PT c p) (n:Nat):TRel E (.ipt (cs.drop n)) (.ipt (ps.drop n)) := by
 refine .ipt _ _ (by simp; omega) fun i c p h1 h2 => ?_
 rw [List.getElem?_drop] at h1 h2
 exact h _ c p h1 h2

omit [Laid] in
theorem intsT_len {k:IntKind}:∀ {cs:List TV} {l:List Int},intsT k cs = some l→l.length = cs.length
 | [],l,h => by simp only [intsT,sJ] at h; subst h; rfl
 | x :: r,l,h => by
  cases x with
  | i k' n =>
   simp only [intsT] at h
   split at h
   ·rename_i l' hk hl
    simp only [sJ] at h; subst h
    simp [intsT_len hl]
   ·cases h
  | _ => simp [intsT] at h
omit [Laid] in
theorem chunk1_get {α:Type}:∀ (n:Nat) (l:List α) {i:Nat} {e:List α},(chunk 1 n l)[i]? = some e→match l[i]? with
  | some p => e = [p]
  | none => e = []
 | 0,_,_,_,h => by simp [chunk] at h
 | n + 1,l,i,e,h => by
  simp only [chunk] at h
  match i with
  | 0 =>
   simp only [List.getElem?_cons_zero,sJ] at h; subst h
   cases l <;> rfl
  | i + 1 =>
   simp only [List.getElem?_cons_succ] at h
   have := chunk1_get n (l.drop 1) h
   rw [List.getElem?_drop,Nat.add_comm] at this
   exact this

omit [Laid] in
theorem dyn_blk (h:Conc nt ns E T st) {s:Nat} {live:Bool} {t:Ty} {l:List t.den} (hl:T.c s = .dyn live t l):∃ b,st.hp[s]? = some b∧b.ver = E.vr s∧b.st.ok = true∧b.st = bst live∧E.ln s = l.length∧∃ es:List (List Pv),b.cs = es.flatten.map .p∧LeLL es (List.map t.enc l) := by
 have hb := h.c s
 rw [hl] at hb
 cases hs:st.hp[s]? with
 | none => rw [hs] at hb; exact hb.elim
 | some b => rw [hs] at hb; exact ⟨b,rfl,hb⟩
omit [Laid] in
theorem cells_blk (h:Conc nt ns E T st) {s:Nat} {live:Bool} {cs:List TV} (hl:T.c s = .cells live cs):∃ b,st.hp[s]? = some b∧b.ver = E.vr s∧b.st.ok = true∧b.st = bst live∧LRel E cs b.cs := by
 have hb := h.c s
 rw [hl] at hb
 cases hs:st.hp[s]? with
 | none => rw [hs] at hb; exact hb.elim
 | some b => rw [hs] at hb; exact ⟨b,rfl,hb⟩

omit [Laid] in
theorem tpure_sound {A:Nat→Ty} {raw:Opd→TV} {g:Opd→V} (h:Conc nt ns E T st) (hraw:∀ x,TRel E (raw x) (g x)) {op:AOp} {ps:List Prop} {tv:TV} (hop:tpure A T.c raw op = some (ps,tv)) (hps:∀ p∈ps,p) :
  ∃ v,astep st.hp g op = some (v,st.hp)∧TRel E tv v := by
 have rd:∀ x,TRel E (unopt (raw x)) (g x) := fun x => unopt_rel (hraw x)
 cases op
 case mv x =>
  simp only [tpure,sJ,pJ] at hop; obtain ⟨_,rfl⟩ := hop
  exact ⟨g x,rfl,unoptA_rel (hraw x)⟩
 case pick c x y =>
  cases c with
  | c _ => simp [tpure] at hop
  | t gi =>
   simp only [tpure] at hop
   split at hop
   ·rename_i bc hbc
    have hb := rd (.t gi)
    rw [hbc] at hb
    have hb := hb.inv_b
    split at hop
    ·split at hop
     ·rename_i p2 Y h2
      split at hop
      ·rename_i hpl
       simp only [sJ,pJ] at hop; obtain ⟨rfl,rfl⟩ := hop
       have hf:bc = false := hps _ (by simp)
       have hY := unP_rel h2 (hraw y) (fun p hp => hps p (by simp [hp])) hf
       refine ⟨_,by simp only [astep,hb] <;> rfl,?_⟩
       have key:∀ u,TRel E Y u→TRel E Y (unw true u) := by
        intro u hu
        cases Y with
        | i k n => cases hu with | pure _ p hp => exact .pure _ p hp
        | b q => cases hu with | pure _ p hp => exact .pure _ p hp
        | _ => simp [plainT] at hpl
       rw [hf,m_pick_f]
       exact key _ hY
      split at hop
      ·rename_i v hv
       simp only [sJ,pJ] at hop; obtain ⟨rfl,rfl⟩ := hop
       have hf:bc = false := hps _ (by simp)
       refine ⟨_,by simp only [astep,hb] <;> rfl,pickT_rel hv ?_ ?_⟩
       ·exact fun e => by rw [hf] at e; cases e
       ·exact fun e => unP_rel h2 (hraw y) (fun p hp => hps p (by simp [hp])) e
      ·cases hop
     ·cases hop
    ·split at hop
     ·rename_i p1 X h1
      split at hop
      ·rename_i v hv
       simp only [sJ,pJ] at hop; obtain ⟨rfl,rfl⟩ := hop
       have hf:bc = true := hps _ (by simp)
       refine ⟨_,by simp only [astep,hb] <;> rfl,pickT_rel hv ?_ ?_⟩
       ·exact fun e => unP_rel h1 (hraw x) (fun p hp => hps p (by simp [hp])) e
       ·exact fun e => by rw [hf] at e; cases e
      ·cases hop
     ·cases hop
    ·split at hop
     ·rename_i p1 X p2 Y h1 h2
      split at hop
      ·rename_i v hv
       simp only [sJ,pJ] at hop; obtain ⟨rfl,rfl⟩ := hop
       refine ⟨_,by simp only [astep,hb] <;> rfl,pickT_rel hv ?_ ?_⟩
       ·exact fun e => unP_rel h1 (hraw x) (fun p hp => hps p (by simp [hp])) e
       ·exact fun e => unP_rel h2 (hraw y) (fun p hp => hps p (by simp [hp])) e
      ·cases hop
     ·cases hop
   ·cases hop
 case newz => simp [tpure] at hop
 case box => simp [tpure] at hop
 case st => simp [tpure] at hop
 case mk => simp [tpure] at hop
 case app => simp [tpure] at hop
 case build z parts =>
  simp only [tpure] at hop
  split at hop
  ·rename_i cs hcs
   simp only [sJ,pJ] at hop; obtain ⟨_,rfl⟩ := hop
   obtain ⟨r,h1,h2⟩ := fillT_rel rd (cs := z.map ofC1) (vs := z.map id) (LRel.map fun x _ => ofC1_rel x) hcs
   rw [List.map_id] at h1
   exact ⟨.agg r,by simp only [astep,h1],h2.agg⟩
  ·cases hop
 case bsl own s k n z parts =>
  cases own with
  | true => simp [tpure] at hop
  | false =>
   simp only [tpure] at hop
   split at hop
   ·rename_i cs hcs
    split at hop
    ·rename_i hk
     split at hop
     ·rename_i l hl
      simp only [sJ,pJ] at hop; obtain ⟨_,rfl⟩ := hop
      obtain ⟨r,h1,h2⟩ := fillT_rel rd (cs := z.map ofC1) (vs := z.map id) (LRel.map fun x _ => ofC1_rel x) hcs
      rw [List.map_id] at h1
      obtain ⟨es,g1,g2,g3,g4,qs,g5,g6⟩ := impN_rel hl h2 (by rw [hk.2,hk.1])
      refine ⟨_,by simp only [astep,h1,g5] <;> rfl,.pure _ _ ?_⟩
      rw [← hk.1,g6]
      exact mkSl_ok (.inr rfl) g2
     ·cases hop
    ·cases hop
   ·cases hop
 case ld1 x =>
  simp only [tpure] at hop
  split at hop
  ·rename_i v hv
   simp only [sJ,pJ] at hop; obtain ⟨_,rfl⟩ := hop
   obtain ⟨cs,h1,u,h2,h3⟩ := load_rel h (rd x) hv
   exact ⟨u,by simp only [astep,h1,h2,Option.map_some],h3⟩
  ·cases hop
 case ldn n x =>
  simp only [tpure] at hop
  split at hop
  ·rename_i v hv
   simp only [sJ,pJ] at hop; obtain ⟨_,rfl⟩ := hop
   obtain ⟨cs,h1,h2,h3⟩ := load_rel h (rd x) hv
   exact ⟨_,by simp only [astep,h1,if_pos h2],h3⟩
  ·cases hop
 case bin op x y =>
  have hx := rd x
  have hy := rd y
  simp only [tpure] at hop
  split at hop
  ·rename_i k a k' b hxa hyb
   rw [hxa] at hx; rw [hyb] at hy
   split at hop
   ·rename_i hk
    subst hk
    obtain ⟨p,h1,h2⟩ := binT_rel hop hps
    refine ⟨.p p,?_,.pure _ _ h2⟩
    simp only [astep,hx.inv_i,hy.inv_i,if_true,h1,Option.map_some]
   ·cases hop
  ·cases hop
 case eqa neg n offs x y =>
  have hx := rd x
  have hy := rd y
  simp only [tpure] at hop
  split at hop
  ·rename_i xs ys hxa hyb
   rw [hxa] at hx; rw [hyb] at hy
   obtain ⟨us,hu,ru⟩ := hx.agg'
   obtain ⟨vs,hv,rv⟩ := hy.agg'
   split at hop
   ·rename_i hl
    split at hop
    ·rename_i b hb
     simp only [sJ,pJ] at hop; obtain ⟨_,rfl⟩ := hop
     have := eqTs_rel ru rv hb
     refine ⟨_,by simp only [astep,hu,hv]; rw [if_pos ⟨by rw [ru.1]; exact hl.1,by rw [rv.1]; exact hl.2⟩,this] <;> rfl,?_⟩
     cases neg <;> exact .bool
    ·cases hop
   ·cases hop
  ·cases hop
 case eqb neg x y =>
  have hx := rd x
  have hy := rd y
  simp only [tpure] at hop
  split at hop
  ·rename_i a b hxa hyb
   rw [hxa] at hx; rw [hyb] at hy
   simp only [sJ,pJ] at hop; obtain ⟨_,rfl⟩ := hop
   refine ⟨_,by simp only [astep,hx.inv_b,hy.inv_b] <;> rfl,?_⟩
   cases neg <;> exact .bool
  ·cases hop
 case unot x =>
  have hx := rd x
  simp only [tpure] at hop
  split at hop
  ·rename_i b hxa
   rw [hxa] at hx
   simp only [sJ,pJ] at hop; obtain ⟨_,rfl⟩ := hop
   exact ⟨_,by simp only [astep,hx.inv_b] <;> rfl,.bool⟩
  ·cases hop
 case uneg x =>
  have hx := rd x
  simp only [tpure] at hop
  split at hop
  ·rename_i b hxa
   rw [hxa] at hx
   simp only [sJ,pJ] at hop; obtain ⟨_,rfl⟩ := hop
   exact ⟨_,by simp only [astep,hx.inv_i] <;> rfl,.int⟩
  ·cases hop
 case conv k x =>
  have hx := rd x
  simp only [tpure] at hop
  split at hop
  ·rename_i b hxa
   rw [hxa] at hx
   simp only [sJ,pJ] at hop; obtain ⟨_,rfl⟩ := hop
   exact ⟨_,by simp only [astep,hx.inv_i] <;> rfl,.int⟩
  ·cases hop
 case fa off x =>
  have hx := rd x
  simp only [tpure] at hop
  split at hop
  ·rename_i s o ds hxa
   rw [hxa] at hx
   simp only [sJ,pJ] at hop; obtain ⟨_,rfl⟩ := hop
   obtain ⟨hd,he⟩ := hx.inv_ptr
   refine ⟨_,by simp only [astep,he] <;> rfl,?_⟩
   rw [show o + dsOff ds + off = o + off + dsOff ds by omega]
   exact .ptr _ _ _ hd
  ·rename_i s t i j hxa
   rw [hxa] at hx
   simp only [sJ,pJ] at hop; obtain ⟨_,rfl⟩ := hop
   obtain ⟨h0,h1,he⟩ := hx.inv_pd
   refine ⟨_,by simp only [astep,he] <;> rfl,?_⟩
   rw [Nat.add_assoc]
   exact .pd _ _ _ _ h0 h1
  ·rename_i cs hxa
   rw [hxa] at hx
   simp only [sJ,pJ] at hop; obtain ⟨_,rfl⟩ := hop
   obtain ⟨qs,he,hn,hp⟩ := hx.inv_ipt
   exact ⟨_,by simp only [astep,he] <;> rfl,drop_rel hn hp off⟩
  ·cases hop
 case ia k x i =>
  have hx := rd x
  have hi := rd i
  simp only [tpure] at hop
  split at hop
  ·rename_i ki n hia
   rw [hia] at hi
   have hi := hi.inv_i
   split at hop
   ·rename_i t l hxa
    rw [hxa] at hx
    split at hop
    ·rename_i ht
     split at hop
     ·rename_i qs hq
      simp only [sJ,pJ] at hop; obtain ⟨rfl,rfl⟩ := hop
      obtain ⟨h0,h1⟩ := idxP_ok hq hps
      obtain ⟨k',es,f,he,hk,hle⟩ := hx.inv_sl
      have hn := lell_n hle
      have hlt:n.toNat < es.length := by rw [hn]; omega
      have hk' : k' = k := by
       rcases hk with rfl | hk
       ·simp at hlt
       ·rw [hk,ht]
      refine ⟨.ipt (es.getD n.toNat []),?_,?_⟩
      ·simp only [astep,he,hi]; rw [if_pos ⟨h0,by rw [hn]; exact h1,hk'⟩]
      ·have hget := List.getElem?_eq_getElem hlt
       have hg := lell_get hle hget
       have e1:es.getD n.toNat [] = es[n.toNat] := by simp [List.getD,hget]
       rw [e1]
       refine .ipt _ _ (by rw [explode_len,← hg.1,Ty.enc_len]; exact Nat.le_refl _) fun j c p h1 h2 => explode_pt hg h1 h2
     ·cases hop
    ·cases hop
   ·rename_i s t hxa
    rw [hxa] at hx
    split at hop
    ·rename_i ht
     split at hop
     ·rename_i live t' l hl
      split at hop
      ·rename_i qs hq
       simp only [sJ,pJ] at hop; obtain ⟨rfl,rfl⟩ := hop
       obtain ⟨h0,h1⟩ := idxP_ok hq hps
       obtain ⟨b,k1,k2,k3,k4,k5,_⟩ := dyn_blk h hl
       refine ⟨.ptr s (E.vr s) (0 + n.toNat * k),?_,?_⟩
       ·simp only [astep,hx.inv_own,hi]; rw [if_pos ⟨h0,by rw [k5]; exact h1,ht⟩]
       ·have := TRel.pd (E := E) s t n 0 h0 (by rw [k5]; exact h1)
        rw [ht] at this; simpa using this
      ·cases hop
     ·cases hop
    ·cases hop
   ·rename_i s o len k' hxa
    rw [hxa] at hx
    split at hop
    ·rename_i hk
     have key:0≤n→n < (len:Int)→astep st.hp g (.ia k x i) = some (.ptr s (E.vr s) (o + n.toNat * k),st.hp) := by
      intro h0 h1
      simp only [astep,hx.inv_vc,hi]; rw [if_pos ⟨h0,h1,hk⟩]
     split at hop
     ·split at hop
      ·rename_i hc
       simp only [sJ,pJ] at hop; obtain ⟨rfl,rfl⟩ := hop
       exact ⟨_,key hc.1 hc.2,by simpa [dsOff] using TRel.ptr (E := E) s (o + n.toNat * k) [] trivial⟩
      ·cases hop
     ·simp only [sJ,pJ] at hop; obtain ⟨rfl,rfl⟩ := hop
      have h0:0≤n := hps _ (by simp)
      have h1:n < (len:Int) := hps _ (by simp)
      exact ⟨_,key h0 h1,by simpa [dsOff] using TRel.ptr (E := E) s o [(n,k,len)] ⟨⟨h0,h1⟩,trivial⟩⟩
    ·cases hop
   ·cases hop
  ·cases hop
 case iaa k len x i =>
  have hx := rd x
  have hi := rd i
  simp only [tpure] at hop
  split at hop
  ·rename_i ki n hia
   rw [hia] at hi
   have hi := hi.inv_i
   split at hop
   ·rename_i s o ds hxa
    rw [hxa] at hx
    obtain ⟨hd,he⟩ := hx.inv_ptr
    have key:0≤n→n < (len:Int)→astep st.hp g (.iaa k len x i) = some (.ptr s (E.vr s) (o + dsOff ds + n.toNat * k),st.hp) := by
     intro h0 h1
     simp only [astep,he,hi]; rw [if_pos ⟨h0,h1⟩]
    split at hop
    ·split at hop
     ·rename_i hc
      simp only [sJ,pJ] at hop; obtain ⟨rfl,rfl⟩ := hop
      refine ⟨_,key hc.1 hc.2,?_⟩
      rw [show o + dsOff ds + n.toNat * k = o + n.toNat * k + dsOff ds by omega]
      exact .ptr _ _ _ hd
     ·cases hop
    ·simp only [sJ,pJ] at hop; obtain ⟨rfl,rfl⟩ := hop
     have h0:0≤n := hps _ (by simp)
     have h1:n < (len:Int) := hps _ (by simp)
     refine ⟨_,key h0 h1,?_⟩
     rw [show o + dsOff ds + n.toNat * k = o + dsOff ((n,k,len) :: ds) by simp only [dsOff]; omega]
     exact .ptr _ _ _ ⟨⟨h0,h1⟩,hd⟩
   ·rename_i s t a j hxa
    rw [hxa] at hx
    obtain ⟨q0,q1,he⟩ := hx.inv_pd
    split at hop
    ·split at hop
     ·rename_i hc
      simp only [sJ,pJ] at hop; obtain ⟨rfl,rfl⟩ := hop
      refine ⟨_,by simp only [astep,he,hi]; rw [if_pos hc],?_⟩
      rw [Nat.add_assoc]
      exact .pd _ _ _ _ q0 q1
     ·cases hop
    ·cases hop
   ·rename_i cs hxa
    rw [hxa] at hx
    obtain ⟨qs,he,hn,hp⟩ := hx.inv_ipt
    have key:0≤n→n < (len:Int)→astep st.hp g (.iaa k len x i) = some (.ipt (qs.drop (n.toNat * k)),st.hp) := by
     intro h0 h1
     simp only [astep,he,hi]; rw [if_pos ⟨h0,h1⟩]
    split at hop
    ·split at hop
     ·rename_i hc
      simp only [sJ,pJ] at hop; obtain ⟨rfl,rfl⟩ := hop
      exact ⟨_,key hc.1 hc.2,drop_rel hn hp _⟩
     ·cases hop
    ·split at hop
     ·rename_i l hl
      simp only [sJ,pJ] at hop; obtain ⟨rfl,rfl⟩ := hop
      have h0:0≤n := hps _ (by simp)
      have h1:n < (len:Int) := hps _ (by simp)
      obtain ⟨k1,k2⟩ := idxT_all (ipt_lrel (E := E) hn hp) hl h0 h1
      have k3:∀ (j:Nat) (c:TV),l[j]? = some c→∃ q,qs[n.toNat * k + j]? = some q∧PT c q := by
       intro j c hc
       obtain ⟨v,g1,g2⟩ := k2 j c hc
       rw [List.getElem?_take] at g1
       split at g1
       ·rw [List.getElem?_map] at g1
        cases hq:qs[n.toNat * k + j]? with
        | none => simp [hq] at g1
        | some q =>
         simp only [hq,Option.map_some,sJ] at g1; subst g1
         refine ⟨q,rfl,?_⟩
         cases g2 with
         | pure _ _ h => exact h
         | opt g' b' w' c' _ hh =>
          exact absurd hl (by
           intro hl'
           obtain ⟨y,hy,hf⟩ := optAll_at (i := j) (x := j) hl' (by
            have := (List.getElem?_eq_some_iff.1 hc).1
            rw [k1] at this; simp [this])
           rw [hc,sJ] at hy; subst hy
           unfold idxT at hf
           split at hf
           ·unfold selT at hf
            split at hf <;> first | (split at hf <;> simp at hf) | cases hf
           ·cases hf)
         | und =>
          exact absurd hl (by
           intro hl'
           obtain ⟨y,hy,hf⟩ := optAll_at (i := j) (x := j) hl' (by
            have := (List.getElem?_eq_some_iff.1 hc).1
            rw [k1] at this; simp [this])
           rw [hc,sJ] at hy; subst hy
           unfold idxT at hf
           split at hf
           ·unfold selT at hf
            split at hf <;> first | (split at hf <;> simp at hf) | cases hf
           ·cases hf)
       ·cases g1
      refine ⟨_,key h0 h1,.ipt _ _ ?_ ?_⟩
      ·rw [k1,List.length_drop]
       rcases Nat.eq_zero_or_pos k with rfl | hk0
       ·simp
       ·obtain ⟨q,hq,_⟩ := k3 (k - 1) l[k - 1] (List.getElem?_eq_getElem (by omega))
        have := (List.getElem?_eq_some_iff.1 hq).1
        omega
      ·intro j c p hc hq
       obtain ⟨q,g1,g2⟩ := k3 j c hc
       rw [List.getElem?_drop,g1,sJ] at hq; subst hq
       exact g2
     ·cases hop
   ·cases hop
  ·cases hop
 case prt off n x =>
  have hx := rd x
  simp only [tpure] at hop
  split at hop
  ·rename_i cs hxa
   rw [hxa] at hx
   obtain ⟨vs,he,hr⟩ := hx.agg'
   split at hop
   ·rename_i v hv
    simp only [sJ,pJ] at hop; obtain ⟨_,rfl⟩ := hop
    have := part_rel hr hv
    cases n with
    | none =>
     obtain ⟨u,g1,g2⟩ := this
     exact ⟨u,by simp only [astep,he,part?,g1,Option.map_some],g2⟩
    | some n =>
     obtain ⟨g1,g2⟩ := this
     exact ⟨_,by simp only [astep,he,part?,if_pos g1,Option.map_some],g2⟩
   ·cases hop
  ·cases hop
 case idx k len agg x i =>
  have hx := rd x
  have hi := rd i
  simp only [tpure] at hop
  split at hop
  ·rename_i cs ki n hxa hia
   rw [hxa] at hx
   rw [hia] at hi
   have hi := hi.inv_i
   obtain ⟨vs,he,hr⟩ := hx.agg'
   split at hop
   ·split at hop
    ·rename_i hc
     split at hop
     ·rename_i v hv
      simp only [sJ,pJ] at hop; obtain ⟨_,rfl⟩ := hop
      have := part_rel hr hv
      cases agg with
      | false =>
       obtain ⟨u,g1,g2⟩ := this
       exact ⟨u,by simp only [astep,he,hi,if_pos hc,part?,g1,Option.map_some,Bool.false_eq_true,if_false],g2⟩
      | true =>
       obtain ⟨g1,g2⟩ := this
       exact ⟨_,by simp only [astep,he,hi,if_pos hc,part?,if_pos g1,Option.map_some,if_true],g2⟩
     ·cases hop
    ·cases hop
   ·split at hop
    ·split at hop
     ·rename_i hle
      split at hop
      ·rename_i l hl
       simp only [sJ,pJ] at hop; obtain ⟨rfl,rfl⟩ := hop
       have h0:0≤n := hps _ (by simp)
       have h1:n < (len:Int) := hps _ (by simp)
       obtain ⟨k1,k2⟩ := idxT_all hr hl h0 h1
       have hmul:(n.toNat + 1) * k≤len * k := Nat.mul_le_mul_right _ (by omega)
       rw [Nat.succ_mul] at hmul
       have hle' : n.toNat * k + k≤vs.length := by rw [hr.1]; omega
       refine ⟨.agg ((vs.drop (n.toNat * k)).take k),by simp only [astep,he,hi]; rw [if_pos ⟨h0,h1⟩]; simp only [part?,if_true,if_pos hle',Option.map_some],.agg _ _ ?_ ?_⟩
       ·rw [k1,List.length_take,List.length_drop]; omega
       ·intro j c v hc hv
        obtain ⟨u,g1,g2⟩ := k2 j c hc
        have hj:j < k := by rw [← k1]; exact (List.getElem?_eq_some_iff.1 hc).1
        rw [List.getElem?_take,if_pos hj,List.getElem?_drop,g1,sJ] at hv; subst hv
        exact g2
      ·cases hop
     ·cases hop
    ·split at hop
     ·rename_i v hv
      simp only [sJ,pJ] at hop; obtain ⟨rfl,rfl⟩ := hop
      have h0:0≤n := hps _ (by simp)
      have h1:n < (len:Int) := hps _ (by simp)
      obtain ⟨u,g1,g2⟩ := idxT_get hr hv h0 h1
      rw [Nat.add_zero] at g1
      exact ⟨u,by simp only [astep,he,hi]; rw [if_pos ⟨h0,h1⟩]; simp only [part?,Bool.false_eq_true,if_false,g1,Option.map_some],g2⟩
     ·cases hop
  ·cases hop
 case ext i x =>
  have hx := rd x
  simp only [tpure] at hop
  split at hop
  ·rename_i cs hxa
   rw [hxa] at hx
   obtain ⟨vs,he,hn,hr⟩ := hx.inv_tup
   split at hop
   ·rename_i v hv
    simp only [sJ,pJ] at hop; obtain ⟨_,rfl⟩ := hop
    obtain ⟨u,hu⟩ := get_of_len hn.symm hv
    exact ⟨u,by simp only [astep,he,hu,Option.map_some],hr i v u hv hu⟩
   ·cases hop
  ·cases hop
 case len str x =>
  have hx := rd x
  cases str with
  | true =>
   simp only [tpure] at hop
   split at hop
   ·rename_i s hxa
    rw [hxa] at hx
    simp only [sJ,pJ] at hop; obtain ⟨_,rfl⟩ := hop
    exact ⟨_,by simp only [astep,hx.inv_s] <;> rfl,.int⟩
   ·cases hop
  | false =>
   simp only [tpure] at hop
   split at hop
   ·rename_i t l hxa
    rw [hxa] at hx
    simp only [sJ,pJ] at hop; obtain ⟨_,rfl⟩ := hop
    obtain ⟨k',es,f,he,hk,hle⟩ := hx.inv_sl
    refine ⟨_,by simp only [astep,he] <;> rfl,?_⟩
    rw [lell_n hle]; exact .int
   ·rename_i hxa
    rw [hxa] at hx
    simp only [sJ,pJ] at hop; obtain ⟨_,rfl⟩ := hop
    obtain ⟨k',he⟩ := hx.inv_nil
    exact ⟨_,by simp only [astep,he] <;> rfl,.int⟩
   ·rename_i s t hxa
    rw [hxa] at hx
    split at hop
    ·rename_i live t' l hl
     simp only [sJ,pJ] at hop; obtain ⟨_,rfl⟩ := hop
     obtain ⟨b,k1,k2,k3,k4,k5,_⟩ := dyn_blk h hl
     refine ⟨_,by simp only [astep,hx.inv_own] <;> rfl,?_⟩
     rw [k5]; exact .int
    ·cases hop
   ·rename_i s o n k hxa
    rw [hxa] at hx
    simp only [sJ,pJ] at hop; obtain ⟨_,rfl⟩ := hop
    exact ⟨_,by simp only [astep,hx.inv_vc] <;> rfl,.int⟩
   ·rename_i s t lo n hxa
    rw [hxa] at hx
    simp only [sJ,pJ] at hop; obtain ⟨_,rfl⟩ := hop
    obtain ⟨h0,h1,h2,he⟩ := hx.inv_vd
    refine ⟨_,by simp only [astep,he] <;> rfl,?_⟩
    rw [Int.toNat_of_nonneg h1]; exact .int
   ·cases hop
 case isn x =>
  have hx := rd x
  simp only [tpure] at hop
  split at hop
  ·rename_i t l hxa
   rw [hxa] at hx
   simp only [sJ,pJ] at hop; obtain ⟨_,rfl⟩ := hop
   obtain ⟨k',es,f,he,hk,hle⟩ := hx.inv_sl
   refine ⟨_,by simp only [astep,he] <;> rfl,?_⟩
   rw [lell_n hle]; exact .nb _
  ·rename_i hxa
   rw [hxa] at hx
   simp only [sJ,pJ] at hop; obtain ⟨_,rfl⟩ := hop
   obtain ⟨k',he⟩ := hx.inv_nil
   exact ⟨_,by simp only [astep,he] <;> rfl,.nb _⟩
  ·rename_i s t hxa
   rw [hxa] at hx
   split at hop
   ·rename_i live t' l hl
    simp only [sJ,pJ] at hop; obtain ⟨_,rfl⟩ := hop
    obtain ⟨b,k1,k2,k3,k4,k5,_⟩ := dyn_blk h hl
    refine ⟨_,by simp only [astep,hx.inv_own] <;> rfl,?_⟩
    rw [k5]; exact .nb _
   ·cases hop
  ·cases hop
 case sh left x y =>
  have hx := rd x
  have hy := rd y
  simp only [tpure] at hop
  split at hop
  ·rename_i k a k' b hxa hyb
   rw [hxa] at hx; rw [hyb] at hy
   have key:∀ {ps:List Prop} {tv:TV},0≤b→(ps,tv) = (ps,TV.i k (sh2 left k a b))→∃ v,astep st.hp g (.sh left x y) = some (v,st.hp)∧TRel E tv v := by
    intro ps tv hb e
    simp only [pJ,true_and] at e; subst e
    exact ⟨_,by simp only [astep,hx.inv_i,hy.inv_i,if_pos hb] <;> rfl,.int⟩
   split at hop
   ·split at hop
    ·rename_i hb
     simp only [sJ,pJ] at hop; obtain ⟨_,rfl⟩ := hop
     exact key (ps := []) hb rfl
    ·cases hop
   ·simp only [sJ,pJ] at hop; obtain ⟨rfl,rfl⟩ := hop
    exact key (ps := []) (hps _ (by simp)) rfl
  ·cases hop
 case bnot x =>
  have hx := rd x
  simp only [tpure] at hop
  split at hop
  ·rename_i b hxa
   rw [hxa] at hx
   simp only [sJ,pJ] at hop; obtain ⟨_,rfl⟩ := hop
   exact ⟨_,by simp only [astep,hx.inv_i] <;> rfl,.int⟩
  ·cases hop
 case a64 x y z =>
  have hx := rd x
  have hy := rd y
  have hz := rd z
  simp only [tpure] at hop
  split at hop
  ·rename_i a b c hxa hyb hzc
   rw [hxa] at hx; rw [hyb] at hy; rw [hzc] at hz
   simp only [sJ,pJ] at hop; obtain ⟨rfl,rfl⟩ := hop
   have h1 := hps _ List.mem_cons_self
   have h2 := hps _ (List.mem_cons_of_mem _ List.mem_cons_self)
   have h3 := hps _ (List.mem_cons_of_mem _ (List.mem_cons_of_mem _ List.mem_cons_self))
   have h4 := hps _ (List.mem_cons_of_mem _ (List.mem_cons_of_mem _ (List.mem_cons_of_mem _ List.mem_cons_self)))
   refine ⟨_,by simp only [astep,hx.inv_i,hy.inv_i,hz.inv_i]; rw [if_pos ⟨h1,h2,h3,h4⟩],?_⟩
   refine .tup _ _ rfl fun i c v hc hv => ?_
   match i with
   | 0 => simp at hc hv; subst hc hv; exact .int
   | 1 => simp at hc hv; subst hc hv; exact .int
   | i + 2 => simp at hc
  ·cases hop
 case six x i =>
  have hx := rd x
  have hi := rd i
  simp only [tpure] at hop
  split at hop
  ·rename_i s kk n hxa hib
   rw [hxa] at hx; rw [hib] at hi
   simp only [sJ,pJ] at hop; obtain ⟨rfl,rfl⟩ := hop
   have h1 := hps _ List.mem_cons_self
   have h2 := hps _ (List.mem_cons_of_mem _ List.mem_cons_self)
   have h3:n.toNat < s.size := by omega
   have e:s[n.toNat]? = some s[n.toNat] := getElem?_pos s n.toNat h3
   refine ⟨.p (.int .u8 s[n.toNat].toNat),by simp only [astep,hx.inv_s,hi.inv_i,if_pos h1,e],?_⟩
   rw [show v_six s n = (s[n.toNat].toNat:Int) by unfold v_six; rw [e]; rfl]
   exact .int
  ·cases hop
 case sadd x y =>
  have hx := rd x
  have hy := rd y
  simp only [tpure] at hop
  split at hop
  ·rename_i a b hxa hyb
   rw [hxa] at hx; rw [hyb] at hy
   simp only [sJ,pJ] at hop; obtain ⟨rfl,rfl⟩ := hop
   have h1 := hps _ List.mem_cons_self
   exact ⟨.p (.str (a ++ b)),by simp only [astep,hx.inv_s,hy.inv_s]; rw [if_pos (by omega)],.pure _ _ ⟨_,rfl,.str _⟩⟩
  ·cases hop
 case scmp neg x y =>
  have hx := rd x
  have hy := rd y
  simp only [tpure] at hop
  split at hop
  ·rename_i a b hxa hyb
   rw [hxa] at hx; rw [hyb] at hy
   simp only [sJ,pJ] at hop; obtain ⟨_,rfl⟩ := hop
   refine ⟨_,by simp only [astep,hx.inv_s,hy.inv_s] <;> rfl,?_⟩
   cases neg <;> exact .bool
  ·cases hop
 case ssl x lo hi =>
  have hx := rd x
  simp only [tpure] at hop
  split at hop
  ·rename_i r lo' hi' hxa hlo hhi
   rw [hxa] at hx
   simp only [sJ,pJ] at hop; obtain ⟨rfl,rfl⟩ := hop
   have hc := slT_ok (Int.natCast_nonneg _) hps
   have b1 := tbound_rel rd hlo 0
   have b2 := tbound_rel rd hhi (r.size:Int)
   exact ⟨.p (.str (r.extract (lo'.getD 0).toNat (hi'.getD (r.size:Int)).toNat)),by simp only [astep,hx.inv_s,b1,b2]; rw [if_pos hc],.pure _ _ ⟨_,rfl,.str _⟩⟩
  ·cases hop
 case isi neg x =>
  have hx := rd x
  simp only [tpure] at hop
  split at hop
  ·rename_i b hxa
   rw [hxa] at hx
   simp only [sJ,pJ] at hop; obtain ⟨_,rfl⟩ := hop
   refine ⟨_,by simp only [astep,hx.inv_e] <;> rfl,?_⟩
   cases neg <;> exact .bool
  ·cases hop
 case sof x =>
  have hx := rd x
  simp only [tpure] at hop
  split at hop
  ·rename_i l hxa
   rw [hxa] at hx
   simp only [sJ,pJ] at hop; obtain ⟨rfl,rfl⟩ := hop
   have h1:v_bts l := hps _ List.mem_cons_self
   obtain ⟨k',es,f,he,hk,hle⟩ := hx.inv_sl
   have hn := lell_n hle
   have hes:es = l.map fun n => [Pv.int .u8 n] := by
    refine List.ext_getElem? fun i => ?_
    rcases Nat.lt_or_ge i l.length with hi | hi
    ·have e1:es[i]? = some (es[i]'(by omega)) := List.getElem?_eq_getElem (by omega)
     have e2:(List.map (Ty.enc (.int .u8)) l)[i]? = some [Pv.int .u8 l[i]] := by simp [List.getElem?_eq_getElem hi,Ty.enc]
     obtain ⟨q1,q2⟩ := hle.2 i _ _ e1 e2
     rw [e1,List.getElem?_map,List.getElem?_eq_getElem hi,Option.map_some]
     have q3:(es[i]'(by omega)).length = 1 := q1.symm
     obtain ⟨x0,hx0⟩ := List.length_eq_one_iff.1 q3
     have q4 := q2 0 x0 (.int .u8 l[i]) (by rw [hx0]; rfl) rfl
     rw [hx0]
     cases q4
     rfl
    ·rw [List.getElem?_eq_none (by omega),List.getElem?_eq_none (by simp; omega)]
   have hb:bytesV es = some (l.map fun n => UInt8.ofNat n.toNat) := by
    rw [hes]
    clear he hk hle hn hes hxa hx hps
    induction l with
    | nil => rfl
    | cons n l ih =>
     have hn := h1 n List.mem_cons_self
     have := ih fun m hm => h1 m (List.mem_cons_of_mem _ hm)
     unfold bytesV at this ⊢
     rw [List.map_cons,List.mapM_cons,this]
     simp [byteV,hn]
   have hkk:k' = 1 ∨ es.length = 0 := by
    rcases hk with rfl | hk
    ·right; rfl
    ·left; exact hk
   exact ⟨.p (.str ⟨(l.map fun n => UInt8.ofNat n.toNat).toArray⟩),by simp only [astep,he,hb]; rw [if_pos hkk],.pure _ _ ⟨_,rfl,.str _⟩⟩
  ·cases hop
 case mm3 mx x y z =>
  have hx := rd x
  have hy := rd y
  have hz := rd z
  simp only [tpure] at hop
  split at hop
  ·rename_i k a k' b k'' c hxa hyb hzc
   rw [hxa] at hx; rw [hyb] at hy; rw [hzc] at hz
   simp only [sJ,pJ] at hop; obtain ⟨_,rfl⟩ := hop
   refine ⟨_,by simp only [astep,hx.inv_i,hy.inv_i,hz.inv_i] <;> rfl,?_⟩
   have e:∀ a b:Int,mm2 mx a b = (match mx with | true => max a b | false => min a b) := by
    intro a b
    cases mx
    ·simp only [mm2,Bool.false_eq_true,if_false,Int.min_def]; split <;> split <;> omega
    ·simp only [mm2,if_true,Int.max_def]; split <;> split <;> omega
   rw [e,e]
   cases mx <;> exact .int
  ·cases hop
 case mm mx x y =>
  have hx := rd x
  have hy := rd y
  simp only [tpure] at hop
  split at hop
  ·rename_i k a k' b hxa hyb
   rw [hxa] at hx; rw [hyb] at hy
   simp only [sJ,pJ] at hop; obtain ⟨_,rfl⟩ := hop
   refine ⟨_,by simp only [astep,hx.inv_i,hy.inv_i] <;> rfl,?_⟩
   have e:(if mx = true then (if b > a then b else a) else (if b < a then b else a)) = (match mx with | true => max a b | false => min a b) := by
    cases mx
    ·simp only [Bool.false_eq_true,if_false,Int.min_def]; split <;> split <;> omega
    ·simp only [if_true,Int.max_def]; split <;> split <;> omega
   rw [e]; exact .int
  ·cases hop
 case sl k x lo hi =>
  have hx := rd x
  simp only [tpure] at hop
  split at hop
  ·rename_i t l lo' hi' hxa hlo hhi
   rw [hxa] at hx
   split at hop
   ·rename_i ht
    simp only [sJ,pJ] at hop; obtain ⟨rfl,rfl⟩ := hop
    obtain ⟨k',es,f,he,hk,hle⟩ := hx.inv_sl
    have hn := lell_n hle
    have hc := slT_ok (Int.natCast_nonneg _) hps
    have b1 := tbound_rel rd hlo 0
    have b2 := tbound_rel rd hhi (es.length:Int)
    have hcond:0≤lo'.getD 0∧lo'.getD 0≤hi'.getD (es.length:Int)∧hi'.getD (es.length:Int)≤(es.length:Int)∧(k' = k ∨ es.length = 0) := by
     rw [hn]
     refine ⟨hc.1,hc.2.1,hc.2.2,?_⟩
     rcases hk with rfl | hk
     ·right; simpa using hn.symm
     ·left; rw [hk,ht]
    refine ⟨_,by simp only [astep,he,b1,b2]; rw [if_pos hcond],?_⟩
    rw [slL_eq]
    have := hle.map_sl (lo'.getD 0).toNat ((hi'.getD l.length).toNat - (lo'.getD 0).toNat)
    refine .ofCan rfl (.sl' ?_ (fun e => by cases e) (by rw [hn]; exact this))
    rcases hk with rfl | hk
    ·left; simp
    ·right; exact hk
   ·cases hop
  ·rename_i s t lo' hi' hxa hlo hhi
   rw [hxa] at hx
   split at hop
   ·rename_i ht
    split at hop
    ·rename_i live t' l hl
     simp only [sJ,pJ] at hop; obtain ⟨rfl,rfl⟩ := hop
     obtain ⟨b,k1,k2,k3,k4,k5,_⟩ := dyn_blk h hl
     have h0:0≤lo'.getD 0 := hps _ (by simp)
     have h1:lo'.getD 0 < hi'.getD l.length := hps _ (by simp)
     have h2:hi'.getD l.length≤l.length := hps _ (by simp)
     have b1 := tbound_rel rd hlo 0
     have b2 := tbound_rel rd hhi (E.ln s:Int)
     rw [k5] at b2
     refine ⟨_,by simp only [astep,hx.inv_own,b1]; rw [k5,b2]; simp only; rw [if_pos ⟨h0,h1,h2,ht⟩],?_⟩
     have := TRel.vd (E := E) s t (lo'.getD 0) (hi'.getD l.length - lo'.getD 0) h0 (by omega) (by rw [k5]; omega)
     rw [ht] at this
     rw [show (hi'.getD (l.length:Int)).toNat - (lo'.getD 0).toNat = (hi'.getD (l.length:Int) - lo'.getD 0).toNat by omega,Nat.zero_add]
     exact this
    ·cases hop
   ·cases hop
  ·cases hop
 case sla k n x lo hi =>
  have hx := rd x
  simp only [tpure] at hop
  split at hop
  ·rename_i s o lo' hi' hxa hlo hhi
   rw [hxa] at hx
   obtain ⟨_,he⟩ := hx.inv_ptr
   split at hop
   ·rename_i live cs hl
    split at hop
    ·rename_i hc
     simp only [sJ,pJ] at hop; obtain ⟨rfl,rfl⟩ := hop
     obtain ⟨b,k1,k2,k3,k4,k5⟩ := cells_blk h hl
     have b1 := tbound_rel rd hlo 0
     have b2 := tbound_rel rd hhi (n:Int)
     refine ⟨_,by simp only [astep,he,b1,b2,k1]; rw [if_pos ⟨k2,k3,by rw [k5.1]; simpa [dsOff] using hc.1,hc.2⟩],?_⟩
     simp only [dsOff,Nat.add_zero]
     exact .vc _ _ _ _
    ·cases hop
   ·cases hop
  ·rename_i ik n0 cs hxa hlo hhi
   rw [hxa] at hx
   obtain ⟨ps0,he,hn,hp⟩ := hx.inv_ipt
   split at hop
   ·rename_i l hl
    split at hop
    ·rename_i hc
     obtain ⟨rfl,h0,hnc⟩ := hc
     simp only [sJ,pJ] at hop; obtain ⟨_,rfl⟩ := hop
     have b1:bound g 0 lo = some 0 := tbound_rel rd hlo 0
     have b2:bound g n hi = some (n:Int) := tbound_rel rd hhi (n:Int)
     simp only [List.length_cons] at hn
     refine ⟨_,by simp only [astep,he,b1,b2]; rw [if_pos ⟨by omega,by omega,by omega,by omega⟩],?_⟩
     have hll := intsT_len hl
     rw [List.length_take,List.length_cons,Nat.min_eq_left hnc] at hll
     refine .ofCan rfl (.sl' (.inr rfl) (fun e => by cases e) ⟨?_,fun i e e' h1 h2 => ?_⟩)
     ·simp [hll,chunk_length]
     ·simp only [Int.toNat_zero,List.drop_zero,Int.toNat_natCast,Nat.sub_zero] at h1
      rw [List.take_of_length_le (by rw [chunk_length]; exact Nat.le_refl _)] at h1
      have hi:i < n := by have := (List.getElem?_eq_some_iff.1 h1).1; rwa [chunk_length] at this
      obtain ⟨p,hq⟩ : ∃ p,ps0[i]? = some p := ⟨ps0[i]'(by omega),List.getElem?_eq_getElem _⟩
      have e1:e = [p] := by
       have := chunk1_get n ps0 h1
       rw [hq] at this; exact this
      obtain ⟨c,hcc⟩ : ∃ c,((TV.i ik n0 :: cs).take n)[i]? = some c := ⟨((TV.i ik n0 :: cs).take n)[i]'(by rw [List.length_take,List.length_cons]; omega),List.getElem?_eq_getElem _⟩
      have e2 := intsT_get hl hcc
      subst e2
      have hcc' : (TV.i ik n0 :: cs)[i]? = some (.i ik (l.getD i 0)) := by
       rw [List.getElem?_take,if_pos hi] at hcc; exact hcc
      have e3 := (hp i _ p hcc' hq).inv_i
      rw [List.getElem?_map] at h2
      have hil:i < l.length := by omega
      rw [List.getElem?_eq_getElem hil] at h2
      simp only [Option.map_some,sJ] at h2
      have e4:l.getD i 0 = l[i] := by simp [List.getD,hil]
      subst h2 e1
      rw [e3,e4]
      exact ⟨rfl,fun j x x' k1 k2 => by
       match j with
       | 0 => simp [Ty.enc] at k1 k2; subst k1 k2; exact .int _ _
       | j + 1 => simp at k1⟩
    ·cases hop
   ·cases hop
  ·cases hop
 case sl3 k x lo hi mx =>
  have hx := rd x
  simp only [tpure] at hop
  have fin:∀ {k' : Nat} {es:List (List Pv)} {f:Bool},g x = .p (.sl k' es f)→(k' = k ∨ es.length = 0)→boundT (fun y => unopt (raw y)) lo = some none→boundT (fun y => unopt (raw y)) hi = some (some 0)→boundT (fun y => unopt (raw y)) (some mx) = some (some 0) →
    ∃ v,astep st.hp g (.sl3 k x lo hi mx) = some (v,st.hp)∧TRel E .nil v := by
   intro k' es f he hk hlo hhi hmm
   have b1:bound g 0 lo = some 0 := tbound_rel rd hlo 0
   have b2:bound g (-1) hi = some 0 := tbound_rel rd hhi (-1)
   have b3:bound g 0 (some mx) = some 0 := tbound_rel rd hmm 0
   refine ⟨_,by simp only [astep,he,b1,b2,b3]; rw [if_pos ⟨by omega,by omega,by omega,by omega,hk⟩],?_⟩
   exact .ofCan rfl (.sl' (.inl (by simp)) (fun _ => by simp) ⟨by simp,by simp⟩)
  split at hop
  ·rename_i t l h m hxa hlo hhi hmm
   rw [hxa] at hx
   split at hop
   ·rename_i hk
    obtain ⟨hk,rfl,rfl⟩ := hk
    simp only [sJ,pJ] at hop; obtain ⟨_,rfl⟩ := hop
    obtain ⟨k',es,f,he,hke,hle⟩ := hx.inv_sl
    refine fin he ?_ hlo hhi hmm
    rcases hke with rfl | e
    ·exact .inr rfl
    ·exact .inl (e.trans hk)
   ·cases hop
  ·rename_i h m hxa hlo hhi hmm
   rw [hxa] at hx
   split at hop
   ·rename_i hk
    obtain ⟨rfl,rfl⟩ := hk
    simp only [sJ,pJ] at hop; obtain ⟨_,rfl⟩ := hop
    obtain ⟨k',he⟩ := hx.inv_nil
    exact fin he (.inr rfl) hlo hhi hmm
   ·cases hop
  ·cases hop
 case cpy => simp [tpure] at hop
 case clo f caps =>
  simp only [tpure,sJ,pJ] at hop; obtain ⟨_,rfl⟩ := hop
  have := LRel.map (E := E) (f := fun c => unopt (raw c)) (g := g) (l := caps) (fun x _ => rd x)
  exact ⟨_,rfl,.clo _ _ _ this.1 this.2⟩
 case bnd f x =>
  have hx := rd x
  simp only [tpure] at hop
  split at hop
  ·rename_i cs hxa
   rw [hxa] at hx
   split at hop
   ·rename_i a ha
    simp only [sJ,pJ] at hop; obtain ⟨_,rfl⟩ := hop
    obtain ⟨vs,he,hl⟩ := hx.inv_agg
    obtain ⟨ps,hp,hle⟩ := sigCs_rel ha hl
    refine ⟨_,by simp only [astep,he,hp] <;> rfl,.pure _ _ ⟨_,rfl,.fn f [ps] [a.1.enc a.2] (fun _ i e e' h1 h2 => ?_) rfl (fun i e e' h1 h2 => ?_) (fun i e e' j x x' h1 h2 h3 h4 => ?_)⟩⟩
    all_goals
     match i,h1,h2 with
     | 0,h1,h2 =>
      simp only [List.getElem?_cons_zero,sJ] at h1 h2
      subst h1 h2
      first | exact hle.1 | exact Nat.le_of_eq hle.1 | exact hle.2 j x x' h3 h4
     | i + 1,h1,h2 => simp at h1
   ·cases hop
  ·cases hop
 case chk x =>
  have hx := rd x
  simp only [tpure] at hop
  split at hop
  ·rename_i s o ds hxa
   rw [hxa] at hx
   simp only [sJ,pJ] at hop; obtain ⟨_,rfl⟩ := hop
   obtain ⟨hd,he⟩ := hx.inv_ptr
   exact ⟨_,by simp only [astep,he] <;> rfl,.ptr _ _ _ hd⟩
  ·rename_i s t i j hxa
   rw [hxa] at hx
   simp only [sJ,pJ] at hop; obtain ⟨_,rfl⟩ := hop
   obtain ⟨h0,h1,he⟩ := hx.inv_pd
   exact ⟨_,by simp only [astep,he] <;> rfl,.pd _ _ _ _ h0 h1⟩
  ·rename_i cs hxa
   rw [hxa] at hx
   simp only [sJ,pJ] at hop; obtain ⟨_,rfl⟩ := hop
   obtain ⟨qs,he,hn,hp⟩ := hx.inv_ipt
   exact ⟨_,by simp only [astep,he] <;> rfl,.ipt _ _ hn hp⟩
  ·cases hop
end
end Go.Mx
