/- Layers of the walk: abstract values, operations, calls, loops, and what they do. No condition. -/
import Derived.Test.YtepdfhjmngbhhaaGreatDoorTxJ
namespace Go.Mx
variable [Laid]
section
variable {E:Env} {P:Program} {X:Cx} {nt ns m:Nat} {T:TSt} {st:St}

theorem weak_trans {s1 s2 s3:St} (h1:Weak m s1 s2) (h2:Weak m s2 s3):Weak m s1 s3 := fun w0 S0 Jo D Φ S a w h => by
 obtain ⟨Φ',h'⟩ := h1 w0 S0 Jo D Φ S a w h
 exact h2 w0 S0 Jo D Φ' S a w h'

theorem sim_ts {w0:World} {S0 Jo:Nat→Prop} {D:Bs} {Φ:Plc} {S:Nat→Prop} {a:Act} {w:World} (h:Sim m w0 S0 Jo D Φ S st a w) {n:Nat} {v:V} (hv:VRel Φ S w v (a.tmps.getD n undef)):Sim m w0 S0 Jo D Φ S ⟨st.ts.set n v,st.hp⟩ a w := by
 refine ⟨h.defers,h.same,by simp [h.size],fun t u hu => ?_,h.hp,h.fresh,h.inj,h.Slt,h.Sold,h.Snew,h.frame,h.io,h.glob⟩
 rw [List.getElem?_set] at hu
 by_cases e:n = t
 ·subst e
  rw [if_pos rfl] at hu
  split at hu
  ·simp only [sJ] at hu; subst hu; exact hv
  ·cases hu
 ·rw [if_neg e] at hu; exact h.ts t u hu

theorem nil_own (h:Conc nt ns E T st) {n s:Nat} (t:Ty) (hn:T.ts n = .nil) (hs:s < ns):∃ st' E',Weak m st st'∧Conc nt ns E' (putT (allocT T s (.dyn true t [])) (some n) (.own s t)) st'∧Hist E T E' (putT (allocT T s (.dyn true t [])) (some n) (.own s t)) ∧
  (∀ n',n' ≠ n→st'.get (.t n') = st.get (.t n'))∧∀ s',s' ≠ s→E'.vr s' = E.vr s'∧E'.ln s' = E.ln s' := by
 have hb := List.getElem?_eq_getElem (l := st.hp) (i := s) (by rw [h.lh]; exact hs)
 generalize st.hp[s]'(by rw [h.lh]; exact hs) = b at hb
 have hT := h.ts n
 rw [hn] at hT
 obtain ⟨k',hk⟩ := hT.inv_nil
 have hlt:n < st.ts.length := by
  rcases Nat.lt_or_ge n st.ts.length with hlt | hge
  ·exact hlt
  ·simp only [St.get,List.getElem?_eq_none hge,Option.getD_none] at hk; cases hk
 obtain ⟨c1,c2⟩ := alloc_conc (ver := b.ver + 1) (len := 0) (cs := []) h hb (c := .dyn true t []) ⟨Env.at_vr.symm,rfl,rfl,Env.at_ln,[],rfl,⟨rfl,by simp⟩⟩
 have hown:TRel (E.at s (b.ver + 1) 0) (.own s t) (.ref s (b.ver + 1) 0 0 t.n) := by
  have := TRel.own (E := E.at s (b.ver + 1) 0) s t
  rw [Env.at_vr,Env.at_ln] at this; exact this
 refine ⟨⟨st.ts.set n (.ref s (b.ver + 1) 0 0 t.n),st.hp.set s ⟨b.ver + 1,.live,[]⟩⟩,E.at s (b.ver + 1) 0,?_,?_,c2.trans (fun s => ⟨Nat.le_refl _,Nat.le_refl _,fun _ => ⟨rfl,rfl⟩,fun _ => rfl⟩),?_,fun s' hs' => Env.at_ne hs'⟩
 ·intro w0 S0 Jo D Φ S a w hsim
  obtain ⟨Φ',g1,g2,g3⟩ := hsim.bump hb (p := .virgin) (cs := []) (.inr rfl) (.inl ⟨rfl,rfl⟩)
  refine ⟨Φ',sim_ts g3 ?_⟩
  have hv := g3.ts n (.p (.sl k' [] true)) (by
   have:st.ts[n]? = some (.p (.sl k' [] true)) := by
    simp only [St.get,List.getElem?_eq_getElem hlt,Option.getD_some] at hk
    rw [List.getElem?_eq_getElem hlt,hk]
   exact this)
  generalize a.tmps.getD n undef = u at hv ⊢
  cases hv with
  | p _ _ hv =>
   cases hv with
   | slnil => exact .refv _ _ _ _ g2
   | sl0 _ _ a cap hc => rw [hc rfl]; exact .refv _ _ _ _ g2
   | sl _ _ _ b o n cap cell hs hn' h0 => simp at hn'; omega
 ·refine ⟨by simp [h.lt],c1.lh,fun n' => ?_,c1.c,c1.v0⟩
  simp only [putT,St.get,List.getElem?_set]
  by_cases e:n' = n
  ·subst e
   rw [beq_self,if_pos rfl,if_pos hlt]
   exact hown
  ·rw [beq_ne e,if_neg (fun x => e x.symm)]
   exact c1.ts n'
 ·intro n' hn'
  simp only [St.get,List.getElem?_set]
  rw [if_neg (fun e => hn' e.symm)]

omit [Laid] in
theorem only_refl (c:Nat) (w:World):Only c w w := ⟨rfl,rfl,rfl,rfl,fun _ _ => rfl⟩

theorem cell_own (h:Conc nt ns E T st) {s s1:Nat} (t:Ty) (hn:T.c s = .cells true [.nil]) (hs1:s1 < ns) (hne:s ≠ s1):∃ st' E',Weak m st st'∧Conc nt ns E' (cellOwn T s s1 t) st'∧Hist E T E' (cellOwn T s s1 t) ∧
  (∀ n',st'.get (.t n') = st.get (.t n'))∧∀ s',s' ≠ s1→E'.vr s' = E.vr s'∧E'.ln s' = E.ln s' := by
 have hb := List.getElem?_eq_getElem (l := st.hp) (i := s1) (by rw [h.lh]; exact hs1)
 generalize st.hp[s1]'(by rw [h.lh]; exact hs1) = b at hb
 have hc := h.c s
 rw [hn] at hc
 cases hbs:st.hp[s]? with
 | none => rw [hbs] at hc; exact hc.elim
 | some b0 =>
 rw [hbs] at hc
 obtain ⟨q1,q2,q3,q4⟩ := hc
 -- the one cell
 obtain ⟨v0,hv0,hv1⟩ : ∃ v0,b0.cs = [v0]∧TRel E .nil v0 := by
  match hcs:b0.cs,q4.1 with
  | [v],_ => exact ⟨v,rfl,q4.2 0 _ v rfl (by rw [hcs]; rfl)⟩
 obtain ⟨k',rfl⟩ := hv1.inv_nil
 obtain ⟨c1,c2⟩ := alloc_conc (ver := b.ver + 1) (len := 0) (cs := []) h hb (c := .dyn true t []) ⟨Env.at_vr.symm,rfl,rfl,Env.at_ln,[],rfl,⟨rfl,by simp⟩⟩
 have hbs' : (st.hp.set s1 ⟨b.ver + 1,.live,[]⟩)[s]? = some b0 := by rw [List.getElem?_set_ne (fun e => hne e.symm)]; exact hbs
 have hown:TRel (E.at s1 (b.ver + 1) 0) (.own s1 t) (.ref s1 (b.ver + 1) 0 0 t.n) := by
  have := TRel.own (E := E.at s1 (b.ver + 1) 0) s1 t
  rw [Env.at_vr,Env.at_ln] at this; exact this
 obtain ⟨d1,d2⟩ := write_conc c1 (s := s) hbs' (c := .cells true [.own s1 t]) (b' := ⟨b0.ver,.live,[.ref s1 (b.ver + 1) 0 0 t.n]⟩)
  ⟨by rw [(Env.at_ne hne).1]; exact q1,rfl,rfl,LRel.one hown⟩
 refine ⟨_,E.at s1 (b.ver + 1) 0,?_,d1,c2.trans d2,fun n' => get_ts _,fun s' hs' => Env.at_ne hs'⟩
 intro w0 S0 Jo D Φ S a w hsim
 obtain ⟨Φ',g1,g2,g3⟩ := hsim.bump hb (p := .virgin) (cs := []) (.inr rfl) (.inl ⟨rfl,rfl⟩)
 refine ⟨Φ',?_⟩
 have hl0:b0.st = .live := q3
 have hB := g3.hp s b0 hbs'
 unfold BRel at hB
 rw [hl0] at hB
 rcases hB with ⟨_,hB⟩ | ⟨c,sz,arr,ty,e1,e2,e3,e4,e5,e6,e7⟩
 ·rw [hv0] at hB; cases hB
 ·refine g3.turn hbs' hl0 e1 (only_refl c w) e2 e3 (cs' := [.ref s1 (b.ver + 1) 0 0 t.n]) (by rw [hv0] at e4; exact e4) ?_
  intro i x hx
  match i with
  | 0 =>
   simp only [List.getElem?_cons_zero,sJ] at hx; subst hx
   have hv := e5 0 _ (by rw [hv0]; rfl)
   generalize arr.getD 0 undef = u at hv ⊢
   cases hv with
   | p _ _ hv =>
    cases hv with
    | slnil => exact .refv _ _ _ _ g2
    | sl0 _ _ a cap hc => rw [hc rfl]; exact .refv _ _ _ _ g2
    | sl _ _ _ b o n cap cell hs hn' h0 => simp at hn'; omega
  | i + 1 => simp at hx

theorem cell_own_p (h:Conc nt ns E T st) {s s1 j:Nat} {cs:List TV} (t:Ty) (hn:T.c s = .cells true cs) (hj:cs[j]? = some .nil) (hs1:s1 < ns) (hne:s ≠ s1):∃ st' E',Weak m st st'∧Conc nt ns E' (cellOwnP T s s1 j t cs) st'∧Hist E T E' (cellOwnP T s s1 j t cs) ∧
  (∀ n',st'.get (.t n') = st.get (.t n'))∧∀ s',s' ≠ s1→E'.vr s' = E.vr s'∧E'.ln s' = E.ln s' := by
 have hb := List.getElem?_eq_getElem (l := st.hp) (i := s1) (by rw [h.lh]; exact hs1)
 generalize st.hp[s1]'(by rw [h.lh]; exact hs1) = b at hb
 have hc := h.c s
 rw [hn] at hc
 cases hbs:st.hp[s]? with
 | none => rw [hbs] at hc; exact hc.elim
 | some b0 =>
 rw [hbs] at hc
 obtain ⟨q1,q2,q3,q4⟩ := hc
 obtain ⟨v0,hv0,hv1⟩ := q4.get hj
 obtain ⟨k',rfl⟩ := hv1.inv_nil
 obtain ⟨c1,c2⟩ := alloc_conc (ver := b.ver + 1) (len := 0) (cs := []) h hb (c := .dyn true t []) ⟨Env.at_vr.symm,rfl,rfl,Env.at_ln,[],rfl,⟨rfl,by simp⟩⟩
 have hbs' : (st.hp.set s1 ⟨b.ver + 1,.live,[]⟩)[s]? = some b0 := by rw [List.getElem?_set_ne (fun e => hne e.symm)]; exact hbs
 have hown:TRel (E.at s1 (b.ver + 1) 0) (.own s1 t) (.ref s1 (b.ver + 1) 0 0 t.n) := by
  have := TRel.own (E := E.at s1 (b.ver + 1) 0) s1 t
  rw [Env.at_vr,Env.at_ln] at this; exact this
 obtain ⟨d1,d2⟩ := write_conc c1 (s := s) hbs' (c := .cells true ((cs.map (killS s1)).set j (.own s1 t))) (b' := ⟨b0.ver,.live,b0.cs.set j (.ref s1 (b.ver + 1) 0 0 t.n)⟩)
  ⟨by rw [(Env.at_ne hne).1]; exact q1,rfl,rfl,(killL_rel q4).set hown j⟩
 refine ⟨_,E.at s1 (b.ver + 1) 0,?_,d1,c2.trans d2,fun n' => get_ts _,fun s' hs' => Env.at_ne hs'⟩
 intro w0 S0 Jo D Φ S a w hsim
 obtain ⟨Φ',g1,g2,g3⟩ := hsim.bump hb (p := .virgin) (cs := []) (.inr rfl) (.inl ⟨rfl,rfl⟩)
 refine ⟨Φ',?_⟩
 have hl0:b0.st = .live := q3
 have hB := g3.hp s b0 hbs'
 unfold BRel at hB
 rw [hl0] at hB
 rcases hB with ⟨_,hB⟩ | ⟨c,sz,arr,ty,e1,e2,e3,e4,e5,e6,e7⟩
 ·rw [hB] at hv0; cases hv0
 ·refine g3.turn hbs' hl0 e1 (only_refl c w) e2 e3 (cs' := b0.cs.set j (.ref s1 (b.ver + 1) 0 0 t.n)) (by rw [List.length_set]; exact e4) ?_
  intro i x hx
  rw [List.getElem?_set] at hx
  by_cases hij:j = i
  ·subst hij
   rw [if_pos rfl] at hx
   split at hx
   ·simp only [sJ] at hx; subst hx
    have hv := e5 j _ hv0
    generalize arr.getD j undef = u at hv ⊢
    cases hv with
    | p _ _ hv =>
     cases hv with
     | slnil => exact .refv _ _ _ _ g2
     | sl0 _ _ a cap hc => rw [hc rfl]; exact .refv _ _ _ _ g2
     | sl _ _ _ b o n cap cell hs hn' h0 => simp at hn'; omega
   ·cases hx
  ·rw [if_neg hij] at hx
   exact e5 i x hx

theorem norm_conc {ds:Nat→Bool} {chg:List Nat}:∀ {es:List Ent} {E:Env} {T:TSt} {st:St},(∀ n s t,Ent.o n s t∈es→ds n = true∧memN s chg = true)→(∀ s s1,(∃ t,Ent.q s s1 t∈es) ∨ (∃ p t,Ent.qp s s1 p t∈es)→memN s1 chg = true)→Conc nt ns E T st →
  ∃ st' E',Weak m st st'∧Conc nt ns E' (normT ns es T) st'∧Hist E T E' (normT ns es T)∧(∀ n,ds n = false→st'.get (.t n) = st.get (.t n))∧∀ s,memN s chg = false→E'.vr s = E.vr s∧E'.ln s = E.ln s
 | [],E,T,st,_,_,h => ⟨st,E,weak_refl st,h,.refl _ _,fun _ _ => rfl,fun _ _ => ⟨rfl,rfl⟩⟩
 | e :: r,E,T,st,ho,hq,h => by
  have hr:∀ n s t,Ent.o n s t∈r→ds n = true∧memN s chg = true := fun n s t hm => ho n s t (by simp [hm])
  have hr2:∀ s s1,(∃ t,Ent.q s s1 t∈r) ∨ (∃ p t,Ent.qp s s1 p t∈r)→memN s1 chg = true := fun s s1 hm => hq s s1 (hm.imp (fun ⟨t,h⟩ => ⟨t,by simp [h]⟩) (fun ⟨p,t,h⟩ => ⟨p,t,by simp [h]⟩))
  cases e with
  | o n s t =>
   simp only [normT]
   split
   ·rename_i hn
    split
    ·rename_i hs
     have hs:s < ns := Nat.ble_eq.mp hs
     obtain ⟨st1,E1,g1,g2,g3,g4,g5⟩ := nil_own (m := m) h t hn hs
     obtain ⟨st2,E2,q1,q2,q3,q4,q5⟩ := norm_conc hr hr2 g2
     obtain ⟨o1,o2⟩ := ho n s t (by simp)
     refine ⟨st2,E2,weak_trans g1 q1,q2,g3.trans q3,fun n' hn' => ?_,fun s' hs' => ?_⟩
     ·rw [q4 n' hn',g4 n' (fun e => by subst e; rw [o1] at hn'; cases hn')]
     ·have hne:s' ≠ s := fun e => by subst e; rw [o2] at hs'; cases hs'
      exact ⟨(q5 s' hs').1.trans (g5 s' hne).1,(q5 s' hs').2.trans (g5 s' hne).2⟩
    ·exact norm_conc (es := r) hr hr2 h
   ·exact norm_conc (es := r) hr hr2 h
  | q s s1 t =>
   simp only [normT]
   split
   ·rename_i hn
    split
    ·rename_i hs
     simp only [Bool.and_eq_true,Bool.not_eq_true'] at hs
     have hs1:s1 < ns := Nat.ble_eq.mp hs.1.2
     have hne:s ≠ s1 := fun e => by rw [e,beq_self] at hs; exact absurd hs.2 (by decide)
     obtain ⟨st1,E1,g1,g2,g3,g4,g5⟩ := cell_own (m := m) h t hn hs1 hne
     obtain ⟨st2,E2,q1,q2,q3,q4,q5⟩ := norm_conc hr hr2 g2
     have o2 := hq s s1 (.inl ⟨t,by simp⟩)
     refine ⟨st2,E2,weak_trans g1 q1,q2,g3.trans q3,fun n' hn' => by rw [q4 n' hn',g4 n'],fun s' hs' => ?_⟩
     have hne:s' ≠ s1 := fun e => by subst e; rw [o2] at hs'; cases hs'
     exact ⟨(q5 s' hs').1.trans (g5 s' hne).1,(q5 s' hs').2.trans (g5 s' hne).2⟩
    ·exact norm_conc (es := r) hr hr2 h
   ·exact norm_conc (es := r) hr hr2 h
  | qp s s1 p t =>
   simp only [normT]
   split
   ·rename_i cs hn
    split
    ·rename_i hs
     simp only [Bool.and_eq_true,Bool.not_eq_true'] at hs
     have hs1:s1 < ns := Nat.ble_eq.mp hs.1.2
     have hne:s ≠ s1 := fun e => by rw [e,beq_self] at hs; exact absurd hs.2 (by decide)
     have hnil:cs[p.n]? = some .nil := by
      have := hs.1.1.1
      unfold isNilC at this
      split at this
      ·rename_i e; exact e
      ·cases this
     obtain ⟨st1,E1,g1,g2,g3,g4,g5⟩ := cell_own_p (m := m) h t hn hnil hs1 hne
     obtain ⟨st2,E2,q1,q2,q3,q4,q5⟩ := norm_conc hr hr2 g2
     have o2 := hq s s1 (.inr ⟨p,t,by simp⟩)
     refine ⟨st2,E2,weak_trans g1 q1,q2,g3.trans q3,fun n' hn' => by rw [q4 n' hn',g4 n'],fun s' hs' => ?_⟩
     have hne:s' ≠ s1 := fun e => by subst e; rw [o2] at hs'; cases hs'
     exact ⟨(q5 s' hs').1.trans (g5 s' hne).1,(q5 s' hs').2.trans (g5 s' hne).2⟩
    ·exact norm_conc (es := r) hr hr2 h
   ·exact norm_conc (es := r) hr hr2 h
  | _ => exact norm_conc (es := r) hr hr2 h

omit [Laid] in
theorem explode_le {t:Ty} {x:t.den} {ps:List Pv} (h:LeL ps (t.enc x)):LRel E (explode t x) (ps.map .p) := by
 refine ⟨by rw [explode_len,List.length_map,← h.1,Ty.enc_len],fun i c v hc hv => ?_⟩
 rw [List.getElem?_map] at hv
 cases hq:ps[i]? with
 | none => simp [hq] at hv
 | some q => simp only [hq,Option.map_some,sJ] at hv; subst hv; exact .pure c q (explode_pt h hc hq)

omit [Laid] in
theorem entTs_rel (h:Conc nt ns E T st) {e:Ent} {x:e.ty.den} {n:Nat} {v:TV} (hx:entGet T e = some x) (hv:entTs n e x = some v):TRel E v (st.get (.t n)) := by
 cases e with
 | v n' t =>
  simp only [entTs] at hv
  split at hv
  ·rename_i hn
   have hn := Nat.eq_of_beq_eq_true hn; subst hn
   simp only [entGet] at hx
   split at hx
   ·obtain ⟨ps,g1,g2,g3⟩ := imp1_rel hx (LRel.one (h.ts n'))
    split at hv
    ·rename_i c hc
     simp only [sJ] at hv; subst hv
     have := explode_le (E := E) g2
     rw [hc,← g1] at this
     exact this.2 0 c _ rfl rfl
    ·simp only [sJ] at hv; subst hv; exact .und _
   ·cases hx
  ·cases hv
 | a n' t =>
  simp only [entTs] at hv
  split at hv
  ·rename_i hn
   have hn := Nat.eq_of_beq_eq_true hn; subst hn
   simp only [sJ] at hv; subst hv
   simp only [entGet] at hx
   split at hx
   ·rename_i cs hcs
    have hr := h.ts n'
    rw [hcs] at hr
    obtain ⟨vs,he,hl⟩ := hr.agg'
    obtain ⟨ps,g1,g2,g3⟩ := imp1_rel hx hl
    rw [he,g1]
    exact (explode_le g2).agg
   ·cases hx
  ·cases hv
 | o n' s t =>
  simp only [entTs] at hv
  split at hv
  ·rename_i hn
   have hn := Nat.eq_of_beq_eq_true hn; subst hn
   simp only [sJ] at hv; subst hv
   simp only [entGet] at hx
   split at hx
   ·rename_i s' t' hts
    split at hx
    ·rename_i t'' l hb hc
     simp only [Bool.and_eq_true] at hb
     have e1 := Nat.eq_of_beq_eq_true hb.1
     have e2 := Ty.beq_eq hb.2
     subst e1 e2
     have := h.ts n'
     rw [hts] at this; exact this
    ·cases hx
   ·cases hx
  ·cases hv
 | _ => cases hv

omit [Laid] in
theorem fillTs_rel (h:Conc nt ns E T st) {n:Nat}:∀ {es:List Ent} {x:(tyEs es).den} {v:TV},packEs T es = some x→fillTs n es x = some v→TRel E v (st.get (.t n))
 | [],_,_,_,hv => by cases hv
 | [e],x,v,hx,hv => entTs_rel h hx hv
 | e :: q :: r,x,v,hx,hv => by
  simp only [packEs] at hx
  split at hx
  ·rename_i x1 x2 h1 h2
   simp only [sJ] at hx; subst hx
   simp only [fillTs] at hv
   split at hv
   ·rename_i v' hv'
    simp only [sJ] at hv; subst hv
    exact entTs_rel h h1 hv'
   ·exact fillTs_rel h h2 hv
  ·cases hx

omit [Laid] in
theorem entC_rel (h:Conc nt ns E T st) {e:Ent} {x:e.ty.den} {s:Nat} {live:Bool} {c:TC} (hl:∀ s' t,e = .c s' t ∨ e = .d s' t→isLive (T.c s') = live ∨ s' ≠ s) (hx:entGet T e = some x) (hc:entC live s e x = some c):BOk E s c st.hp[s]? := by
 cases e with
 | o n s' t =>
  simp only [entC] at hc
  split at hc
  ·rename_i hs
   have hs := Nat.eq_of_beq_eq_true hs; subst hs
   simp only [sJ] at hc; subst hc
   simp only [entGet] at hx
   split at hx
   ·split at hx
    ·rename_i s2 t2 _ _ t'' l hb hd
     have hb' := h.c s'
     rw [hd] at hb'
     cases hbs:st.hp[s']? with
     | none => rw [hbs] at hb'; exact hb'.elim
     | some b =>
      rw [hbs] at hb'
      obtain ⟨k1,k2,k3,k4,es,k5,k6⟩ := hb'
      obtain ⟨e1,e2⟩ := castL_le hx
      have hlen := congrArg List.length e2
      simp only [List.length_map] at hlen
      exact ⟨k1,k2,k3,by rw [k4,hlen],es,k5,by rw [← e2]; exact k6⟩
    ·cases hx
   ·cases hx
  ·cases hc
 | c s' t =>
  simp only [entC] at hc
  split at hc
  ·rename_i hs
   have hs := Nat.eq_of_beq_eq_true hs; subst hs
   simp only [sJ] at hc; subst hc
   simp only [entGet] at hx
   split at hx
   ·rename_i live' cs hd
    have hb' := h.c s'
    have hl' := (hl s' t (.inl rfl)).resolve_right (fun e => e rfl)
    rw [hd] at hb' hl'
    cases hbs:st.hp[s']? with
    | none => rw [hbs] at hb'; exact hb'.elim
    | some b =>
     rw [hbs] at hb'
     obtain ⟨k1,k2,k3,k4⟩ := hb'
     obtain ⟨ps,g1,g2,g3⟩ := imp1_rel hx k4
     have:live' = live := by cases live' <;> simpa [isLive] using hl'
     subst this
     exact ⟨k1,k2,k3,by rw [g1]; exact explode_le g2⟩
   ·cases hx
  ·cases hc
 | d s' t =>
  simp only [entC] at hc
  split at hc
  ·rename_i hs
   have hs := Nat.eq_of_beq_eq_true hs; subst hs
   simp only [sJ] at hc; subst hc
   simp only [entGet] at hx
   split at hx
   ·rename_i live' t'' l hd
    have hb' := h.c s'
    have hl' := (hl s' t (.inr rfl)).resolve_right (fun e => e rfl)
    rw [hd] at hb' hl'
    cases hbs:st.hp[s']? with
    | none => rw [hbs] at hb'; exact hb'.elim
    | some b =>
     rw [hbs] at hb'
     obtain ⟨k1,k2,k3,k4,es,k5,k6⟩ := hb'
     obtain ⟨e1,e2⟩ := castL_le hx
     have hlen := congrArg List.length e2
     simp only [List.length_map] at hlen
     have:live' = live := by cases live' <;> simpa [isLive] using hl'
     subst this
     exact ⟨k1,k2,k3,by rw [k4,hlen],es,k5,by rw [← e2]; exact k6⟩
   ·cases hx
  ·cases hc
 | q s0 s1 t =>
  simp only [entC] at hc
  simp only [entGet] at hx
  split at hx
  ·rename_i s2 t2 hd
   split at hx
   ·rename_i t'' l hb hd1
    simp only [Bool.and_eq_true] at hb
    have e1 := Nat.eq_of_beq_eq_true hb.1
    have e2 := Ty.beq_eq hb.2
    subst e1 e2
    split at hc
    ·rename_i hs
     have hs := Nat.eq_of_beq_eq_true hs; subst hs
     simp only [sJ] at hc; subst hc
     have hb' := h.c s0
     rw [hd] at hb'
     exact hb'
    ·split at hc
     ·rename_i hs
      have hs := Nat.eq_of_beq_eq_true hs; subst hs
      simp only [sJ] at hc; subst hc
      have hb' := h.c s2
      rw [hd1] at hb'
      cases hbs:st.hp[s2]? with
      | none => rw [hbs] at hb'; exact hb'.elim
      | some b =>
       rw [hbs] at hb'
       obtain ⟨k1,k2,k3,k4,es,k5,k6⟩ := hb'
       obtain ⟨e1,e2⟩ := castL_le hx
       have hlen := congrArg List.length e2
       simp only [List.length_map] at hlen
       exact ⟨k1,k2,k3,by rw [k4,hlen],es,k5,by rw [← e2]; exact k6⟩
     ·cases hc
   ·cases hx
  ·cases hx
 | qp s0 s1 p t =>
  simp only [entC] at hc
  simp only [entGet] at hx
  split at hx
  ·rename_i cs hd
   split at hx
   ·rename_i s2 t2 x1 hlen hdrop himp
    split at hx
    ·rename_i t'' l hb hd1
     simp only [Bool.and_eq_true] at hb
     have e1 := Nat.eq_of_beq_eq_true hb.1
     have e2 := Ty.beq_eq hb.2
     subst e1 e2
     split at hx
     ·rename_i l' hcast
      simp only [sJ] at hx; subst hx
      split at hc
      ·rename_i hs
       have hs := Nat.eq_of_beq_eq_true hs; subst hs
       simp only [sJ] at hc; subst hc
       have hb' := h.c s0
       rw [hd] at hb'
       cases hbs:st.hp[s0]? with
       | none => rw [hbs] at hb'; exact hb'.elim
       | some b =>
        rw [hbs] at hb'
        obtain ⟨k1,k2,k3,k4⟩ := hb'
        refine ⟨k1,k2,k3,?_⟩
        obtain ⟨ps,g1,g2,g3⟩ := imp1_rel himp (k4.take p.n)
        have hsp:b.cs = b.cs.take p.n ++ b.cs.drop p.n := (List.take_append_drop _ _).symm
        have hd2 := k4.drop p.n
        rw [hdrop] at hd2
        rw [hsp,g1]
        exact (explode_le g2).append hd2
      ·split at hc
       ·rename_i hs
        have hs := Nat.eq_of_beq_eq_true hs; subst hs
        simp only [sJ] at hc; subst hc
        have hb' := h.c s2
        rw [hd1] at hb'
        cases hbs:st.hp[s2]? with
        | none => rw [hbs] at hb'; exact hb'.elim
        | some b =>
         rw [hbs] at hb'
         obtain ⟨k1,k2,k3,k4,es,k5,k6⟩ := hb'
         obtain ⟨e1,e2⟩ := castL_le hcast
         have hlen := congrArg List.length e2
         simp only [List.length_map] at hlen
         exact ⟨k1,k2,k3,by rw [k4,hlen],es,k5,by rw [← e2]; exact k6⟩
       ·cases hc
     ·cases hx
    ·cases hx
   ·cases hx
  ·cases hx
 | _ => cases hc

omit [Laid] in
theorem fillC_rel (h:Conc nt ns E T st) {s:Nat} {live:Bool}:∀ {es:List Ent} {x:(tyEs es).den} {c:TC},(∀ e∈es,∀ s' t,e = .c s' t ∨ e = .d s' t→isLive (T.c s') = live ∨ s' ≠ s)→packEs T es = some x→fillC live s es x = some c→BOk E s c st.hp[s]?
 | [],_,_,_,_,hv => by cases hv
 | [e],x,v,hl,hx,hv => entC_rel h (hl e (by simp)) hx hv
 | e :: q :: r,x,v,hl,hx,hv => by
  simp only [packEs] at hx
  split at hx
  ·rename_i x1 x2 h1 h2
   simp only [sJ] at hx; subst hx
   simp only [fillC] at hv
   split at hv
   ·rename_i v' hv'
    simp only [sJ] at hv; subst hv
    exact entC_rel h (hl e (by simp)) h1 hv'
   ·exact fillC_rel h (fun e he => hl e (by simp only [List.mem_cons] at he ⊢; exact .inr he)) h2 hv
  ·cases hx

omit [Laid] in
theorem fill_conc {E' : Env} {T' : TSt} {es:List Ent} {wr chg:List Nat} {ds:Nat→Bool} {x:(tyEs es).den} (h:Conc nt ns E' T' st) (hp:packEs T' es = some x) (hl:∀ e∈es,∀ s t,e = .c s t ∨ e = .d s t→isLive (T'.c s) = isLive (T.c s))
  (kt:∀ n,ds n = false→TRel E' (killL chg (T.ts n)) (st.get (.t n))) (kc:∀ s,memN s wr = false→BOk E' s (killCs chg (T.c s)) st.hp[s]?) (hv:∀ s,ns≤s→T.v s = 0) (hchg:∀ s,memN s chg = true→s < ns):Conc nt ns E' (fill T es wr chg ds x) st := by
 refine ⟨h.lt,h.lh,fun n => ?_,fun s => ?_,fun s hs => ?_⟩
 ·simp only [fill]
  split
  ·split
   ·rename_i v hv; exact fillTs_rel h hp hv
   ·exact .und _
  ·rename_i hd; exact kt n hd
 ·simp only [fill]
  split
  ·split
   ·rename_i c hc
    refine fillC_rel h (fun e he s' t hst => ?_) hp hc
    by_cases es:s' = s
    ·subst es; exact .inl (hl e he s' t hst)
    ·exact .inr es
   ·cases st.hp[s]? <;> trivial
  ·rename_i hw; exact kc s hw
 ·simp only [fill]
  split
  ·rename_i hm; have := hchg s hm; omega
  ·exact hv s hs

omit [Laid] in
theorem killL_of {E' : Env} {chg:List Nat} {c:TV} {v:V} (h:TRel E c v) (ha:∀ s,memN s chg = false→E'.vr s = E.vr s∧E'.ln s = E.ln s):TRel E' (killL chg c) v := by
 unfold killL
 split
 ·exact .und v
 ·rename_i hk
  refine h.congr fun s hs => ha s ?_
  cases hm:memN s chg with
  | false => rfl
  | true =>
   have:chg.any (fun s => hasS s c) = true := List.any_eq_true.2 ⟨s,memN_iff.1 hm,hs⟩
   rw [this] at hk; cases hk
omit [Laid] in
theorem killL_killL {E' : Env} {chg:List Nat} {c:TV} {v:V} (h:TRel E (killL chg c) v) (ha:∀ s,memN s chg = false→E'.vr s = E.vr s∧E'.ln s = E.ln s):TRel E' (killL chg c) v := by
 by_cases hk:chg.any (fun s => hasS s c) = true
 ·simp only [killL,hk]; exact .und v
 ·have e:killL chg c = c := by simp only [killL]; split <;> simp_all
  rw [e] at h
  exact killL_of h ha
omit [Laid] in
theorem killCs_of {chg:List Nat} {s:Nat} {c:TC} {b:Option Blk} (h:BOk E s c b):BOk E s (killCs chg c) b := by
 cases c with
 | cells live cs =>
  cases b with
  | none => exact h.elim
  | some b =>
   obtain ⟨k1,k2,k3,k4⟩ := h
   refine ⟨k1,k2,k3,by simp [k4.1],fun i c v h1 h2 => ?_⟩
   rw [List.getElem?_map] at h1
   cases hc:cs[i]? with
   | none => simp [hc] at h1
   | some c' =>
    simp only [hc,Option.map_some,sJ] at h1; subst h1
    exact killL_of (k4.2 i c' v hc h2) (fun _ _ => ⟨rfl,rfl⟩)
 | _ => exact h
omit [Laid] in
theorem killCs_id {chg:List Nat} {c:TC} (h:hasCs chg c = false):killCs chg c = c := by
 cases c with
 | cells live cs =>
  simp only [hasCs,List.any_eq_false] at h
  simp only [killCs]
  congr 1
  have:cs.map (killL chg) = cs.map id := by
   apply List.map_congr_left
   intro v hv
   simp only [killL,id]
   split
   ·rename_i hk; exact absurd hk (h v hv)
   ·rfl
  rw [this,List.map_id]
 | _ => rfl
end
end Go.Mx
