/- Layers of the walk: abstract values, operations, calls, loops, and what they do. No condition. -/
import Derived.Test.YtepdfhjmngbhhaaGreatDoorTxK
namespace Go.Mx
variable [Laid]
section
variable {E:Env} {P:Program} {X:Cx} {T:TSt} {st:St}

theorem awp_mono' {m:Nat} {c:ACode} {Q Q' : AEx→St→Prop} {st:St} (h:AWp P m c Q st) (hQ:∀ e s,Q e s→Q' e s):AWp P m c Q' st := awp_mono c Q Q' st hQ h

def Beh (X:Cx) (c:TCode) (k:AEx→TSt→Prop) (E:Env) (T:TSt) (st:St) (e:AEx) (st' : St):Prop :=
 ∃ E' T',k e T'∧Conc X.nt X.ns E' T' st'∧Hist E T E' T'∧∀ n,c.dsts n = false→st'.get (.t n) = st.get (.t n)


omit [Laid] in
theorem dstsIn_le {bs:List Nat} {n:Nat}:∀ {c:TCode},dstsIn bs c = true→c.dsts n = true→memN n bs = true := by
 have reg:∀ ops:List AIns,(ops.all fun i => match i.dst with | some d => memN d bs | none => true) = true→dstIs n ops = true→memN n bs = true := by
  intro ops
  induction ops with
  | nil => intro _ h; simp [dstIs] at h
  | cons i r ih =>
   intro h1 h2
   simp only [List.all_cons,Bool.and_eq_true] at h1
   simp only [dstIs,Bool.or_eq_true] at h2
   rcases h2 with h2 | h2
   ·have h1 := h1.1
    split at h2
    ·rename_i d hd
     rw [hd] at h1
     have := Nat.eq_of_beq_eq_true h2; subst this; exact h1
    ·cases h2
   ·exact ih h1.2 h2
 intro c
 induction c with
 | reg ops => intro h1 h2; exact reg ops h1 h2
 | regd ops p f => intro h1 h2; exact reg ops h1 h2
 | seq x y ihx ihy =>
  intro h1 h2
  simp only [dstsIn,Bool.and_eq_true] at h1
  simp only [TCode.dsts,Bool.or_eq_true] at h2
  exact h2.elim (ihx h1.1) (ihy h1.2)
 | cond o x y ihx ihy =>
  intro h1 h2
  simp only [dstsIn,Bool.and_eq_true] at h1
  simp only [TCode.dsts,Bool.or_eq_true] at h2
  exact h2.elim (ihx h1.1) (ihy h1.2)
 | block id x ih => intro h1 h2; exact ih h1 h2
 | loop es wr chg x ih => intro h1 h2; exact ih h1 h2
 | frz fz x ih => intro h1 h2; exact ih h1 h2
 | rng g ps bs' es wr chg x y _ _ =>
  intro h1 h2
  simp only [dstsIn,List.all_eq_true] at h1
  simp only [TCode.dsts] at h2
  exact h1 n (memN_iff.1 h2)
 | rngc f args t ps bs' es wr chg x y _ _ =>
  intro h1 h2
  simp only [dstsIn,Bool.and_eq_true,List.all_eq_true] at h1
  simp only [TCode.dsts,Bool.or_eq_true] at h2
  rcases h2 with h2 | h2
  ·rw [← Nat.eq_of_beq_eq_true h2]; exact h1.1
  ·exact h1.2 n (memN_iff.1 h2)
 | _ => intro _ h2; simp [TCode.dsts] at h2

omit [Laid] in
theorem maskT_get2 {bs:List Nat}:∀ {ts:List V} {n:Nat},((maskT bs ts)[n]?).getD .und = if n∈bs then .und else (ts[n]?).getD .und := by
 induction bs with
 | nil => intro ts n; simp [maskT]
 | cons k bs ih =>
  intro ts n
  rw [show maskT (k :: bs) ts = maskT bs (ts.set k .und) from rfl,ih]
  by_cases h:n∈bs
  ·simp [h]
  ·rw [if_neg h,List.getElem?_set]
   by_cases e:k = n
   ·subst e
    rw [if_pos rfl,if_pos List.mem_cons_self]
    split <;> rfl
   ·rw [if_neg e,if_neg (by simp only [List.mem_cons,not_or]; exact ⟨fun x => e x.symm,h⟩)]

omit [Laid] in
theorem mask_conc {nt ns:Nat} (h:Conc nt ns E T st) (bs:List Nat):Conc nt ns E (maskTT bs T) (st.mask bs) := by
 refine ⟨by show (maskT bs st.ts).length = nt; rw [maskT_len]; exact h.lt,h.lh,fun n => ?_,h.c,h.v0⟩
 show TRel E _ (((maskT bs st.ts)[n]?).getD .und)
 rw [maskT_get2]
 simp only [maskTT]
 split
 ·exact .und _
 ·rename_i hn
  rw [if_neg (fun hm => by rw [memN_iff.2 hm] at hn; cases hn)]
  exact h.ts n

omit [Laid] in
theorem puts_conc:∀ {ps:List Nat} {cs:List TV} {vs:List V} {T:TSt} {st:St},Conc X.nt X.ns E T st→(ps.all fun p => Nat.blt p X.nt) = true→LRel E cs vs→ps.length = vs.length→Conc X.nt X.ns E (putsTT ps cs T) (st.puts ps vs)∧Hist E T E (putsTT ps cs T)∧∀ n,n ∉ ps→(st.puts ps vs).get (.t n) = st.get (.t n)
 | [],cs,vs,T,st,h,_,_,_ => ⟨h,.refl _ _,fun _ _ => rfl⟩
 | p :: ps,[],vs,T,st,h,_,hr,hl => by
  have := hr.1
  rw [← hl] at this; simp at this
 | p :: ps,c :: cs,[],T,st,h,_,hr,hl => by simp at hl
 | p :: ps,c :: cs,v :: vs,T,st,h,hp,hr,hl => by
  simp only [List.all_cons,Bool.and_eq_true] at hp
  have h1 := put_conc (X := X) h (d := some p) hp.1 (hr.2 0 c v rfl rfl)
  obtain ⟨g1,g2,g3⟩ := puts_conc (ps := ps) (cs := cs) (vs := vs) h1 hp.2 ⟨by simpa using hr.1,fun i c' v' a b => hr.2 (i + 1) c' v' (by simpa using a) (by simpa using b)⟩ (by simpa using hl)
  refine ⟨g1,put_hist.trans g2,fun n hn => ?_⟩
  simp only [List.mem_cons,not_or] at hn
  exact (g3 n hn.2).trans (put_get (st := st) (hp := st.hp) (d := some p) (fun e => hn.1 (Option.some.inj e).symm))

omit [Laid] in
theorem valPs_len:∀ (ps:List PSh) (x:(tyPs ps).den),(valPs ps x).length = ps.length := by
 intro ps
 induction ps with
 | nil => intro x; rfl
 | cons p r ih =>
  intro x
  cases r with
  | nil => rfl
  | cons q r => simp only [valPs,List.length_cons]; rw [ih]; rfl

theorem tev_sound (hC:ConsOk P X.C):∀ (c:TCode) (k:AEx→TSt→Prop) (E:Env) (T:TSt) (st:St),Conc X.nt X.ns E T st→tev X c k T→AWp P X.m c.erase (Beh X c k E T st) st := by
 intro c
 induction c with
 | skip => intro k E T st h hk; exact ⟨E,T,hk,h,.refl _ _,fun _ _ => rfl⟩
 | reg ops => intro k E T st h hk; exact trun_sound hC h hk
 | regd ops pairs fz =>
  intro k E T st h hk
  simp only [tev] at hk
  split at hk
  ·rename_i hfz
   rw [List.all_eq_true] at hfz
   obtain ⟨c1,c2⟩ := frz_conc (ss := fz) h
   refine ⟨fz,fun t ht => Nat.le_of_ble_eq_true (hfz t ht),arund_mono ?_ ops _ _ (trunD_sound hC c1 ⟨rfl,fun i => .refl _⟩ hk)⟩
   rintro s ⟨E',T',g1,g2,g3,g4⟩
   exact ⟨E',T',g1,g2,c2.trans g3,fun n hn => by rw [g4 n hn]; exact get_ts _⟩
  ·exact hk.elim
 | seq x y ihx ihy =>
  intro k E T st h hk
  show AWp P X.m x.erase (AEx.seq (AWp P X.m y.erase _) _) st
  refine awp_mono' (ihx _ E T st h hk) ?_
  rintro e s ⟨E',T',g1,g2,g3,g4⟩
  cases e with
  | normal =>
   refine awp_mono' (ihy k E' T' s g2 g1) ?_
   rintro e s2 ⟨E2,T2,q1,q2,q3,q4⟩
   refine ⟨E2,T2,q1,q2,g3.trans q3,fun n hn => ?_⟩
   simp only [TCode.dsts,Bool.or_eq_false_iff] at hn
   rw [q4 n hn.2,g4 n hn.1]
  | exit id => exact ⟨E',T',g1,g2,g3,fun n hn => by simp only [TCode.dsts,Bool.or_eq_false_iff] at hn; exact g4 n hn.1⟩
  | ret => exact ⟨E',T',g1,g2,g3,fun n hn => by simp only [TCode.dsts,Bool.or_eq_false_iff] at hn; exact g4 n hn.1⟩
 | cond c x y ihx ihy =>
  intro k E T st h hk
  simp only [tev] at hk
  split at hk
  ·rename_i b hb
   have hr := unopt_rel (raw_rel h c)
   rw [hb] at hr
   simp only [TCode.erase,AWp,hr.inv_b]
   have sub:∀ {z:TCode},(∀ n,(TCode.cond c x y).dsts n = false→z.dsts n = false)→AWp P X.m z.erase (Beh X z k E T st) st→AWp P X.m z.erase (Beh X (.cond c x y) k E T st) st := by
    intro z hz hz2
    refine awp_mono' hz2 ?_
    rintro e s ⟨E',T',g1,g2,g3,g4⟩
    exact ⟨E',T',g1,g2,g3,fun n hn => g4 n (hz n hn)⟩
   cases b with
   | true => exact sub (fun n hn => by simp only [TCode.dsts,Bool.or_eq_false_iff] at hn; exact hn.1) (ihx k E T st h (hk.1 rfl))
   | false => exact sub (fun n hn => by simp only [TCode.dsts,Bool.or_eq_false_iff] at hn; exact hn.2) (ihy k E T st h (hk.2 rfl))
  ·rename_i b hb
   have hr := unopt_rel (raw_rel h c)
   rw [hb] at hr
   have hr:st.get c = .ub b := by
    revert hr
    generalize st.get c = v
    intro hr
    cases hr with
    | pure _ p h => obtain ⟨q,h,_⟩ := h; cases h
    | nb => rfl
   simp only [TCode.erase,AWp,hr]
   have sub:∀ {z:TCode},(∀ n,(TCode.cond c x y).dsts n = false→z.dsts n = false)→AWp P X.m z.erase (Beh X z k E T st) st→AWp P X.m z.erase (Beh X (.cond c x y) k E T st) st := by
    intro z hz hz2
    refine awp_mono' hz2 ?_
    rintro e s ⟨E',T',g1,g2,g3,g4⟩
    exact ⟨E',T',g1,g2,g3,fun n hn => g4 n (hz n hn)⟩
   exact ⟨fun e => sub (fun n hn => by simp only [TCode.dsts,Bool.or_eq_false_iff] at hn; exact hn.1) (ihx k E T st h (hk.1 e)),sub (fun n hn => by simp only [TCode.dsts,Bool.or_eq_false_iff] at hn; exact hn.2) (ihy k E T st h hk.2)⟩
  ·exact hk.elim
 | block id x ih =>
  intro k E T st h hk
  show AWp P X.m x.erase (AEx.blk id _) st
  refine awp_mono' (ih _ E T st h hk) ?_
  rintro e s ⟨E',T',g1,g2,g3,g4⟩
  cases e with
  | normal => exact ⟨E',T',g1,g2,g3,g4⟩
  | exit j =>
   simp only [AEx.blk]
   dsimp only at g1
   by_cases e:j = id
   ·subst e
    rw [beq_self] at g1
    rw [if_pos rfl]; exact ⟨E',T',g1,g2,g3,g4⟩
   ·rw [beq_ne e] at g1
    rw [if_neg e]; exact ⟨E',T',g1,g2,g3,g4⟩
  | ret => exact ⟨E',T',g1,g2,g3,g4⟩
 | exit id => intro k E T st h hk; exact ⟨E,T,hk,h,.refl _ _,fun _ _ => rfl⟩
 | ret => intro k E T st h hk; exact ⟨E,T,hk,h,.refl _ _,fun _ _ => rfl⟩
 | frz fz x ih =>
  intro k E T st h hk
  simp only [tev] at hk
  split at hk
  rotate_left
  ·exact hk.elim
  rename_i hfz
  simp only [Bool.and_eq_true,List.all_eq_true] at hfz
  obtain ⟨hl,hfz⟩ := hfz
  obtain ⟨c1,c2⟩ := frz_conc (ss := fz) h
  have key := ih k E _ _ c1 hk
  cases x with
  | loop es wr chg y =>
   obtain ⟨I,μ,⟨s0,hw,hI⟩,hr⟩ := key
   refine ⟨I,μ,⟨s0,weakF_trans (weakF_frz st fun t ht => Nat.le_of_ble_eq_true (hfz t ht)) hw,hI⟩,fun s hs => awp_mono' (hr s hs) ?_⟩
   rintro e s' he
   cases e with
   | normal => exact he
   | exit id =>
    obtain ⟨E',T',g1,g2,g3,g4⟩ := he
    exact ⟨E',T',g1,g2,c2.trans g3,fun n hn => by rw [g4 n hn]; exact get_ts _⟩
   | ret =>
    obtain ⟨E',T',g1,g2,g3,g4⟩ := he
    exact ⟨E',T',g1,g2,c2.trans g3,fun n hn => by rw [g4 n hn]; exact get_ts _⟩
  | _ => cases hl
 | loop es wr chg x ih =>
  intro k E T st h hk
  simp only [tev] at hk
  split at hk
  rotate_left
  ·exact hk.elim
  rename_i x0 hent hpk
  obtain ⟨j0,hk⟩ := hk
  simp only [entryOk,Bool.and_eq_true,List.all_eq_true] at hent
  obtain ⟨hchg,hent⟩ := hent
  have hchg' : ∀ s,memN s chg = true→s < X.ns := fun s hs => Nat.ble_eq.mp (hchg s (memN_iff.1 hs))
  have ho:∀ n s t,Ent.o n s t∈es→x.dsts n = true∧memN s chg = true := fun n s t hm => by
   have := hent _ hm
   simp only [Bool.and_eq_true] at this
   exact this.1
  have hq:∀ s s1,(∃ t,Ent.q s s1 t∈es) ∨ (∃ p t,Ent.qp s s1 p t∈es)→memN s1 chg = true := fun s s1 hm => by
   rcases hm with ⟨t,hm⟩ | ⟨p,t,hm⟩
   ·have := hent _ hm
    simp only [Bool.and_eq_true] at this
    exact this.1.1
   ·have := hent _ hm
    simp only [Bool.and_eq_true] at this
    exact this.1.1
  obtain ⟨st1,E1,w1,c1,hh1,fr1,ag1⟩ := norm_conc (m := X.m) (ds := fun n => x.dsts n) (chg := chg) ho hq h
  generalize hT1:normT X.ns es T = T1 at c1 hh1 hk hpk
  -- the loop's invariant
  let J:Nat→St→Prop := fun j s => ∃ y E',loopP (fun y kn => tev X x (fun e T' => match e with
    | .normal => match headOk X.ns T1 (normT X.ns es T') es wr chg (fun n => x.dsts n),packEs (normT X.ns es T') es with
     | true,some z => kn z
     | _,_ => False
    | e => k e T') (fill T1 es wr chg (fun n => x.dsts n) y)) j y∧Conc X.nt X.ns E' (fill T1 es wr chg (fun n => x.dsts n) y) s ∧
    (∀ s',memN s' chg = false→E'.vr s' = E1.vr s'∧E'.ln s' = E1.ln s')∧∀ n,x.dsts n = false→s.get (.t n) = st1.get (.t n)
  have hfillH:∀ (y:(tyEs es).den) (E' : Env),(∀ s',memN s' chg = false→E'.vr s' = E1.vr s'∧E'.ln s' = E1.ln s')→Hist E1 T1 E' (fill T1 es wr chg (fun n => x.dsts n) y) := by
   intro y E' ha s
   refine ⟨?_,?_,?_,?_⟩
   ·simp only [fill]; split <;> omega
   ·simp only [fill]; split <;> omega
   ·simp only [fill]; split
    ·intro e; omega
    ·rename_i hm; intro _; exact ha s hm
   ·simp only [fill]; split
    ·intro e; omega
    ·rename_i hm
     intro _
     simp only [Bool.or_eq_false_iff] at hm
     rw [hm.1]
     exact killCs_id hm.2
  have hstart:J j0 st1 := by
   refine ⟨x0,E1,hk,?_,fun _ _ => ⟨rfl,rfl⟩,fun _ _ => rfl⟩
   exact fill_conc c1 hpk (fun _ _ _ _ _ => rfl) (fun n _ => killL_of (c1.ts n) (fun _ _ => ⟨rfl,rfl⟩)) (fun s _ => killCs_of (c1.c s)) c1.v0 hchg'
  refine ⟨fun s => ∃ j,J j s,fun s => leastOf (fun j => J j s),⟨st1,w1.toF,j0,hstart⟩,?_⟩
  intro s hs
  obtain ⟨l1,l2⟩ := leastOf_spec hs
  cases hkk:leastOf (fun j => J j s) with
  | zero =>
   rw [hkk] at l1
   obtain ⟨y,E',l1,_⟩ := l1
   exact l1.elim
  | succ j =>
   rw [hkk] at l1
   obtain ⟨y,E',g1,g2,g3,g4⟩ := l1
   refine awp_mono' (ih _ E' _ s g2 g1) ?_
   rintro e s' ⟨E2,T2,q1,q2,q3,q4⟩
   have out:k e T2→Beh X (.loop es wr chg x) k E T st e s' := fun hq =>
    ⟨E2,T2,hq,q2,(hh1.trans (hfillH y E' g3)).trans q3,fun n hn => by rw [q4 n hn,g4 n hn,fr1 n hn]⟩
   cases e with
   | exit id => exact out q1
   | ret => exact out q1
   | normal =>
    dsimp only at q1
    split at q1
    rotate_left
    ·exact q1.elim
    rename_i z hhead hz
    obtain ⟨s3,E3,w3,c3,hh3,fr3,ag3⟩ := norm_conc (m := X.m) (ds := fun n => x.dsts n) (chg := chg) ho hq q2
    generalize hT3:normT X.ns es T2 = T3 at c3 hh3 hhead hz
    simp only [headOk,Bool.and_eq_true,List.all_eq_true,List.mem_range,Bool.or_eq_true] at hhead
    obtain ⟨hsl,hes⟩ := hhead
    have hH := q3.trans hh3
    -- versions and lengths off chg
    have hagree:∀ s',memN s' chg = false→E3.vr s' = E'.vr s'∧E3.ln s' = E'.ln s' := by
     intro s' hm
     refine (hH s').2.2.1 ?_
     rcases Nat.lt_or_ge s' X.ns with hlt | hge
     ·rcases (hsl s' hlt).2 with hc | hc
      ·rw [hm] at hc; cases hc
      ·have := Nat.eq_of_beq_eq_true hc
       simp only [fill,hm]; exact this
     ·rw [c3.v0 s' hge,g2.v0 s' hge]
    have hJ:J j s3 := by
     refine ⟨z,E3,q1,?_,fun s' hm => ⟨(hagree s' hm).1.trans (g3 s' hm).1,(hagree s' hm).2.trans (g3 s' hm).2⟩,fun n hn => by rw [fr3 n hn,q4 n hn,g4 n hn]⟩
     refine fill_conc c3 hz ?_ ?_ ?_ c1.v0 hchg'
     ·rintro e he s' t (rfl | rfl)
      ·have := hes _ he
       simp only [Bool.and_eq_true] at this
       exact eq_of_beq this.2
      ·have := hes _ he
       simp only [Bool.and_eq_true] at this
       exact eq_of_beq this.2
     ·intro n hn
      have h0 := g2.ts n
      simp only [fill,hn] at h0
      rw [fr3 n hn,q4 n hn]
      exact killL_killL h0 hagree
     ·intro s' hw
      rcases Nat.lt_or_ge s' X.ns with hlt | hge
      ·have hc:T3.c s' = (fill T1 es wr chg (fun n => x.dsts n) y).c s' := by
        refine (hH s').2.2.2 ?_
        rcases (hsl s' hlt).1 with hc | hc
        ·rw [hw] at hc; cases hc
        ·have := Nat.eq_of_beq_eq_true hc
         rw [this]
         simp only [fill,hw,Bool.false_or]
       have h0 := c3.c s'
       rw [hc] at h0
       simp only [fill,hw] at h0
       exact h0
      ·have h0 := g2.c s'
       simp only [fill,hw] at h0
       have e1:s.hp[s']? = none := by rw [List.getElem?_eq_none_iff,g2.lh]; exact hge
       rw [e1] at h0
       have e2:s3.hp[s']? = none := by rw [List.getElem?_eq_none_iff,c3.lh]; exact hge
       rw [e2]
       cases hkc:killCs chg (T1.c s') with
       | dead => trivial
       | cells => rw [hkc] at h0; exact h0.elim
       | dyn => rw [hkc] at h0; exact h0.elim
    refine ⟨s3,w3,⟨j,hJ⟩,?_⟩
    have := (leastOf_spec (p := fun j => J j s3) ⟨j,hJ⟩).2 j hJ
    show leastOf (fun j => J j s3) < leastOf (fun j => J j s)
    omega

 | rng g ps bs es wr chg x yc ihx ihy =>
  intro k E T st h hk
  simp only [tev] at hk
  split at hk
  rotate_left
  ·exact hk.elim
  rename_i f caps hraw
  split at hk
  rotate_left
  ·exact hk.elim
  rename_i g' ts a as t pre fn hfc
  split at hk
  rotate_left
  ·exact hk.elim
  rename_i x0 y0 hpk hok hpe
  split at hk
  rotate_left
  ·exact hk.elim
  rename_i l hcast
  obtain ⟨hpre,hk⟩ := conj_iff.1 hk
  obtain ⟨rfl,hcl,et,hiter⟩ := (findC_any hC hfc).2.2.1 rfl
  subst et
  simp only [rngOk,Bool.and_eq_true] at hok
  obtain ⟨⟨⟨⟨⟨hgb,hps⟩,hlen⟩,hdx⟩,hdy⟩,hent⟩ := hok
  have hlen:ps.length = as.length + 1 := Nat.eq_of_beq_eq_true hlen
  have hps1:∀ p∈ps,p∈bs := fun p hp => by
   rw [List.all_eq_true] at hps
   have := hps p hp
   simp only [Bool.and_eq_true] at this
   exact memN_iff.1 this.1
  have hps2:(ps.all fun p => Nat.blt p X.nt) = true := by
   rw [List.all_eq_true] at hps ⊢
   intro p hp
   have := hps p hp
   simp only [Bool.and_eq_true] at this
   exact this.2
  have hnx:∀ n,memN n bs = false→x.dsts n = false := fun n hn => by
   cases hd:x.dsts n with
   | false => rfl
   | true => rw [dstsIn_le hdx hd] at hn; cases hn
  have hny:∀ n,memN n bs = false→yc.dsts n = false := fun n hn => by
   cases hd:yc.dsts n with
   | false => rfl
   | true => rw [dstsIn_le hdy hd] at hn; cases hn
  have hnp:∀ n,memN n bs = false→n ∉ ps := fun n hn hp => by
   rw [memN_iff.2 (hps1 n hp)] at hn; cases hn
  have hit := hiter x0 hpre
  -- the list of what is handed on
  have hl:l = fn (x0,(tyPs (a :: as)).dflt) := (by obtain ⟨_,e⟩ := castL_eq hcast; exact e)
  subst hl
  simp only [entryOk,Bool.and_eq_true,List.all_eq_true] at hent
  obtain ⟨hchg,hent⟩ := hent
  have hchg' : ∀ s,memN s chg = true→s < X.ns := fun s hs => Nat.ble_eq.mp (hchg s (memN_iff.1 hs))
  have ho:∀ n s t,Ent.o n s t∈es→memN n bs = true∧memN s chg = true := fun n s t hm => by
   have := hent _ hm
   simp only [Bool.and_eq_true] at this
   exact this.1
  have hq:∀ s s1,(∃ t,Ent.q s s1 t∈es) ∨ (∃ p t,Ent.qp s s1 p t∈es)→memN s1 chg = true := fun s s1 hm => by
   rcases hm with ⟨t,hm⟩ | ⟨p,t,hm⟩
   ·have := hent _ hm
    simp only [Bool.and_eq_true] at this
    exact this.1.1
   ·have := hent _ hm
    simp only [Bool.and_eq_true] at this
    exact this.1.1
  obtain ⟨st1,E1,w1,c1,hh1,fr1,ag1⟩ := norm_conc (m := X.m) (ds := fun n => memN n bs) (chg := chg) ho hq h
  generalize hT1:normT X.ns es T = T1 at c1 hh1 hk hpe
  have hfillH:∀ (y:(tyEs es).den) (E' : Env),(∀ s',memN s' chg = false→E'.vr s' = E1.vr s'∧E'.ln s' = E1.ln s')→Hist E1 T1 E' (fill T1 es wr chg (fun n => memN n bs) y) := by
   intro y E' ha s
   refine ⟨?_,?_,?_,?_⟩
   ·simp only [fill]; split <;> omega
   ·simp only [fill]; split <;> omega
   ·simp only [fill]; split
    ·intro e; omega
    ·rename_i hm; intro _; exact ha s hm
   ·simp only [fill]; split
    ·intro e; omega
    ·rename_i hm
     intro _
     simp only [Bool.or_eq_false_iff] at hm
     rw [hm.1]
     exact killCs_id hm.2
  -- the function's value is there still
  have hg0:∃ cap,st1.get g = .p (.fn g' cap)∧PvLe (.fn g' cap) (.fn g' (encsL ts x0)) := by
   have hv := raw_rel h g
   rw [hraw] at hv
   have hge:st1.get g = st.get g := by
    cases g with
    | c v => rfl
    | t n => exact fr1 n (by simpa using hgb)
   rw [hge]
   obtain ⟨p,hp,hle⟩ := hv.inv_fn
   rw [packFn_eq hpk] at hle
   obtain ⟨cap,rfl⟩ : ∃ cap,p = .fn g' cap := by
    cases hle with
    | fn => exact ⟨_,rfl⟩
   exact ⟨cap,hp,hle⟩
  obtain ⟨cap,hg1,hg2⟩ := hg0
  have hit2:Iter P g' cap ((fn (x0,(tyPs (a :: as)).dflt)).map (valPs (a :: as))) := fun w S f0 first caps l hp hS => hit w S f0 first caps l (hg2.rel hp) hS
  show AWp P X.m (.rng g ps bs x.erase yc.erase) (Beh X (.rng g ps bs es wr chg x yc) k E T st) st
  refine ⟨st1,w1,g',cap,_,hcl,hg1,hit2,?_⟩
  generalize hl0:fn (x0,(tyPs (a :: as)).dflt) = l at hk
  -- round by round
  have rounds:∀ (l:List (tyPs (a :: as)).den) (s:St) (y:(tyEs es).den) (E' : Env),Conc X.nt X.ns E' (fill T1 es wr chg (fun n => memN n bs) y) s→(∀ s',memN s' chg = false→E'.vr s' = E1.vr s'∧E'.ln s' = E1.ln s')→(∀ n,memN n bs = false→s.get (.t n) = st1.get (.t n)) →
    rngP (fun s z kn => tev X x (fun e T' => match e with
       | .normal => tev X yc (fun e T'' => match e with
        | .normal => match headOk X.ns T1 (normT X.ns es (maskTT bs T'')) es wr chg (fun n => memN n bs),packEs (normT X.ns es (maskTT bs T'')) es with
         | true,some s' => kn s'
         | _,_ => False
        | e => k e (maskTT bs T'')) T'
       | _ => False) (putsTT ps (tvPs (a :: as) z) (fill T1 es wr chg (fun n => memN n bs) s)))
       (fun s => k .normal (fill T1 es wr chg (fun n => memN n bs) s)) l y →
    RngK (fun xs s K => xs.length = ps.length∧AWp P X.m x.erase (AEx.seq (AWp P X.m yc.erase (fun e s' => ∃ s1,Weak X.m (s'.mask bs) s1∧K e s1)) (fun _ _ => False)) (s.puts ps xs)) (Beh X (.rng g ps bs es wr chg x yc) k E T st) (l.map (valPs (a :: as))) s := by
   intro l
   induction l with
   | nil =>
    intro s y E' g2 g3 g4 hr
    exact ⟨E',_,hr,g2,hh1.trans (hfillH y E' g3),fun n hn => by rw [g4 n hn,fr1 n hn]⟩
   | cons z l ih =>
    intro s y E' g2 g3 g4 hr
    have hvl:(valPs (a :: as) z).length = ps.length := by
     rw [hlen,valPs_len]; rfl
    refine ⟨hvl,?_⟩
    obtain ⟨p1,p2,p3⟩ := puts_conc (X := X) (ps := ps) g2 hps2 (tvPs_rel (a :: as) z) hvl.symm
    refine awp_mono' (ihx _ E' _ _ p1 hr) ?_
    rintro e s' ⟨E2,T2,q1,q2,q3,q4⟩
    cases e with
    | exit id => exact q1.elim
    | ret => exact q1.elim
    | normal =>
     refine awp_mono' (ihy _ E2 T2 s' q2 q1) ?_
     rintro e s'' ⟨E4,T4,r1,r2,r3,r4⟩
     have hmk := mask_conc r2 bs
     have hkeep:∀ n,memN n bs = false→(s''.mask bs).get (.t n) = s.get (.t n) := fun n hn => by
      have:(s''.mask bs).get (.t n) = s''.get (.t n) := by
       show ((maskT bs s''.ts)[n]?).getD .und = _
       rw [maskT_get2,if_neg (fun hm => by rw [memN_iff.2 hm] at hn; cases hn)]; rfl
      rw [this,r4 n (hny n hn),q4 n (hnx n hn),p3 n (hnp n hn)]
     have hH0:Hist E' (fill T1 es wr chg (fun n => memN n bs) y) E4 (maskTT bs T4) := (p2.trans q3).trans (r3.trans (fun s => ⟨Nat.le_refl _,Nat.le_refl _,fun _ => ⟨rfl,rfl⟩,fun _ => rfl⟩))
     have out:k e (maskTT bs T4)→∃ s1,Weak X.m (s''.mask bs) s1∧Beh X (.rng g ps bs es wr chg x yc) k E T st e s1 := fun hq =>
      ⟨s''.mask bs,weak_refl _,E4,maskTT bs T4,hq,hmk,(hh1.trans (hfillH y E' g3)).trans hH0,fun n hn => by rw [hkeep n hn,g4 n hn,fr1 n hn]⟩
     cases e with
     | exit id => exact out r1
     | ret => exact out r1
     | normal =>
      dsimp only at r1
      split at r1
      rotate_left
      ·exact r1.elim
      rename_i z2 hhead hz
      obtain ⟨s3,E3,w3,c3,hh3,fr3,ag3⟩ := norm_conc (m := X.m) (ds := fun n => memN n bs) (chg := chg) ho hq hmk
      generalize hT3:normT X.ns es (maskTT bs T4) = T3 at c3 hh3 hhead hz
      simp only [headOk,Bool.and_eq_true,List.all_eq_true,List.mem_range,Bool.or_eq_true] at hhead
      obtain ⟨hsl,hes⟩ := hhead
      have hH := hH0.trans hh3
      have hagree:∀ s',memN s' chg = false→E3.vr s' = E'.vr s'∧E3.ln s' = E'.ln s' := by
       intro s' hm
       refine (hH s').2.2.1 ?_
       rcases Nat.lt_or_ge s' X.ns with hlt | hge
       ·rcases (hsl s' hlt).2 with hc | hc
        ·rw [hm] at hc; cases hc
        ·have := Nat.eq_of_beq_eq_true hc
         simp only [fill,hm]; exact this
       ·rw [c3.v0 s' hge,g2.v0 s' hge]
      refine ⟨s3,w3,ih s3 z2 E3 ?_ (fun s' hm => ⟨(hagree s' hm).1.trans (g3 s' hm).1,(hagree s' hm).2.trans (g3 s' hm).2⟩) (fun n hn => by rw [fr3 n hn,hkeep n hn,g4 n hn]) r1⟩
      refine fill_conc c3 hz ?_ ?_ ?_ c1.v0 hchg'
      ·rintro e he s' t (rfl | rfl)
       ·have := hes _ he
        simp only [Bool.and_eq_true] at this
        exact eq_of_beq this.2
       ·have := hes _ he
        simp only [Bool.and_eq_true] at this
        exact eq_of_beq this.2
      ·intro n hn
       have h0 := g2.ts n
       simp only [fill,hn] at h0
       rw [fr3 n hn,hkeep n hn]
       exact killL_killL h0 hagree
      ·intro s' hw
       rcases Nat.lt_or_ge s' X.ns with hlt | hge
       ·have hc:T3.c s' = (fill T1 es wr chg (fun n => memN n bs) y).c s' := by
         refine (hH s').2.2.2 ?_
         rcases (hsl s' hlt).1 with hc | hc
         ·rw [hw] at hc; cases hc
         ·have := Nat.eq_of_beq_eq_true hc
          rw [this]
          simp only [fill,hw,Bool.false_or]
        have h0 := c3.c s'
        rw [hc] at h0
        simp only [fill,hw] at h0
        exact h0
       ·have h0 := g2.c s'
        simp only [fill,hw] at h0
        have e1:s.hp[s']? = none := by rw [List.getElem?_eq_none_iff,g2.lh]; exact hge
        rw [e1] at h0
        have e2:s3.hp[s']? = none := by rw [List.getElem?_eq_none_iff,c3.lh]; exact hge
        rw [e2]
        cases hkc:killCs chg (T1.c s') with
        | dead => trivial
        | cells => rw [hkc] at h0; exact h0.elim
        | dyn => rw [hkc] at h0; exact h0.elim
  exact rounds l st1 y0 E1 (fill_conc c1 hpe (fun _ _ _ _ _ => rfl) (fun n _ => killL_of (c1.ts n) (fun _ _ => ⟨rfl,rfl⟩)) (fun s _ => killCs_of (c1.c s)) c1.v0 hchg') (fun _ _ => ⟨rfl,rfl⟩) (fun _ _ => rfl) hk.open
 | rngc f args t ps bs es wr chg x yc ihx ihy =>
  intro k E T st h hk
  simp only [tev] at hk
  split at hk
  rotate_left
  ·exact hk.elim
  rename_i a as et pre fn hfc
  split at hk
  rotate_left
  ·exact hk.elim
  rename_i x0 y0 hpk hok hpe
  obtain ⟨hpre,hk⟩ := conj_iff.1 hk
  have hiter := (findC_any hC hfc).2.2.1 rfl
  simp only [rngcOk,Bool.and_eq_true] at hok
  obtain ⟨⟨⟨⟨⟨⟨htn,hsl⟩,hps⟩,hlen⟩,hdx⟩,hdy⟩,hent⟩ := hok
  have hlen:ps.length = 1 := Nat.eq_of_beq_eq_true hlen
  have hps1:∀ p∈ps,p∈bs := fun p hp => by
   rw [List.all_eq_true] at hps
   have := hps p hp
   simp only [Bool.and_eq_true] at this
   exact memN_iff.1 this.1
  have hps2:(ps.all fun p => Nat.blt p X.nt) = true := by
   rw [List.all_eq_true] at hps ⊢
   intro p hp
   have := hps p hp
   simp only [Bool.and_eq_true] at this
   exact this.2
  have hnx:∀ n,memN n bs = false→x.dsts n = false := fun n hn => by
   cases hd:x.dsts n with
   | false => rfl
   | true => rw [dstsIn_le hdx hd] at hn; cases hn
  have hny:∀ n,memN n bs = false→yc.dsts n = false := fun n hn => by
   cases hd:yc.dsts n with
   | false => rfl
   | true => rw [dstsIn_le hdy hd] at hn; cases hn
  have hnp:∀ n,memN n bs = false→n ∉ ps := fun n hn hp => by
   rw [memN_iff.2 (hps1 n hp)] at hn; cases hn
  have hit := hiter x0 hpre
  obtain ⟨xs,pa1,pa2,pa3⟩ := packPs_rel h hpk (args_lrel (raw_rel h) args)
  have hsl0:(args.map st.get).flatMap slots = [] := by rw [pa3]; exact List.isEmpty_iff.1 hsl
  have hit2 := iterC_le pa2 hit
  have h0 := put_conc (X := X) h (d := some t) htn (TRel.und V.und)
  have hh0:Hist E T E (putT T (some t) .und) := put_hist
  have fr0:∀ n,(Nat.beq t n || memN n bs) = false→(St.put st (some t) .und).get (.t n) = st.get (.t n) := fun n hn => by
   simp only [Bool.or_eq_false_iff] at hn
   exact put_get (st := st) (hp := st.hp) (fun e => by cases e; rw [beq_self] at hn; cases hn.1)
  simp only [entryOk,Bool.and_eq_true,List.all_eq_true] at hent
  obtain ⟨hchg,hent⟩ := hent
  have hchg' : ∀ s,memN s chg = true→s < X.ns := fun s hs => Nat.ble_eq.mp (hchg s (memN_iff.1 hs))
  have ho:∀ n s t,Ent.o n s t∈es→memN n bs = true∧memN s chg = true := fun n s t hm => by
   have := hent _ hm
   simp only [Bool.and_eq_true] at this
   exact this.1
  have hq:∀ s s1,(∃ t,Ent.q s s1 t∈es) ∨ (∃ p t,Ent.qp s s1 p t∈es)→memN s1 chg = true := fun s s1 hm => by
   rcases hm with ⟨t,hm⟩ | ⟨p,t,hm⟩
   ·have := hent _ hm
    simp only [Bool.and_eq_true] at this
    exact this.1.1
   ·have := hent _ hm
    simp only [Bool.and_eq_true] at this
    exact this.1.1
  obtain ⟨st1,E1,w1,c1,hh1,fr1,ag1⟩ := norm_conc (m := X.m) (ds := fun n => memN n bs) (chg := chg) ho hq h0
  generalize hT1:normT X.ns es (putT T (some t) .und) = T1 at c1 hh1 hk hpe
  have hfillH:∀ (y:(tyEs es).den) (E' : Env),(∀ s',memN s' chg = false→E'.vr s' = E1.vr s'∧E'.ln s' = E1.ln s')→Hist E1 T1 E' (fill T1 es wr chg (fun n => memN n bs) y) := by
   intro y E' ha s
   refine ⟨?_,?_,?_,?_⟩
   ·simp only [fill]; split <;> omega
   ·simp only [fill]; split <;> omega
   ·simp only [fill]; split
    ·intro e; omega
    ·rename_i hm; intro _; exact ha s hm
   ·simp only [fill]; split
    ·intro e; omega
    ·rename_i hm
     intro _
     simp only [Bool.or_eq_false_iff] at hm
     rw [hm.1]
     exact killCs_id hm.2
  show AWp P X.m (.rngc f args t ps bs x.erase yc.erase) (Beh X (.rngc f args t ps bs es wr chg x yc) k E T st) st
  refine ⟨by rw [h.lt]; exact Nat.ble_eq.mp htn,xs,_,pa1,hsl0,hit2,st1,w1,?_⟩
  -- round by round
  have rounds:∀ (l:List et.den) (s:St) (y:(tyEs es).den) (E' : Env),Conc X.nt X.ns E' (fill T1 es wr chg (fun n => memN n bs) y) s→(∀ s',memN s' chg = false→E'.vr s' = E1.vr s'∧E'.ln s' = E1.ln s')→(∀ n,memN n bs = false→s.get (.t n) = st1.get (.t n)) →
    rngP (fun s z kn => tev X x (fun e T' => match e with
       | .normal => tev X yc (fun e T'' => match e with
        | .normal => match headOk X.ns T1 (normT X.ns es (maskTT bs T'')) es wr chg (fun n => memN n bs),packEs (normT X.ns es (maskTT bs T'')) es with
         | true,some s' => kn s'
         | _,_ => False
        | e => k e (maskTT bs T'')) T'
       | _ => False) (putsTT ps (tvPs [.one et] z) (fill T1 es wr chg (fun n => memN n bs) s)))
       (fun s => k .normal (fill T1 es wr chg (fun n => memN n bs) s)) l y →
    RngK (fun xs s K => xs.length = ps.length∧AWp P X.m x.erase (AEx.seq (AWp P X.m yc.erase (fun e s' => ∃ s1,Weak X.m (s'.mask bs) s1∧K e s1)) (fun _ _ => False)) (s.puts ps xs)) (Beh X (.rngc f args t ps bs es wr chg x yc) k E T st) (l.map (fun z => [valP (.one et) z])) s := by
   intro l
   induction l with
   | nil =>
    intro s y E' g2 g3 g4 hr
    exact ⟨E',_,hr,g2,(hh0.trans hh1).trans (hfillH y E' g3),fun n hn => by have hn2 := (Bool.or_eq_false_iff.1 hn).2; rw [g4 n hn2,fr1 n hn2,fr0 n hn]⟩
   | cons z l ih =>
    intro s y E' g2 g3 g4 hr
    have hvl:(valPs [.one et] z).length = ps.length := by
     rw [hlen,valPs_len]; rfl
    refine ⟨hvl,?_⟩
    obtain ⟨p1,p2,p3⟩ := puts_conc (X := X) (ps := ps) g2 hps2 (tvPs_rel [.one et] z) hvl.symm
    refine awp_mono' (ihx _ E' _ _ p1 hr) ?_
    rintro e s' ⟨E2,T2,q1,q2,q3,q4⟩
    cases e with
    | exit id => exact q1.elim
    | ret => exact q1.elim
    | normal =>
     refine awp_mono' (ihy _ E2 T2 s' q2 q1) ?_
     rintro e s'' ⟨E4,T4,r1,r2,r3,r4⟩
     have hmk := mask_conc r2 bs
     have hkeep:∀ n,memN n bs = false→(s''.mask bs).get (.t n) = s.get (.t n) := fun n hn => by
      have:(s''.mask bs).get (.t n) = s''.get (.t n) := by
       show ((maskT bs s''.ts)[n]?).getD .und = _
       rw [maskT_get2,if_neg (fun hm => by rw [memN_iff.2 hm] at hn; cases hn)]; rfl
      rw [this,r4 n (hny n hn),q4 n (hnx n hn)]; exact p3 n (hnp n hn)
     have hH0:Hist E' (fill T1 es wr chg (fun n => memN n bs) y) E4 (maskTT bs T4) := (p2.trans q3).trans (r3.trans (fun s => ⟨Nat.le_refl _,Nat.le_refl _,fun _ => ⟨rfl,rfl⟩,fun _ => rfl⟩))
     have out:k e (maskTT bs T4)→∃ s1,Weak X.m (s''.mask bs) s1∧Beh X (.rngc f args t ps bs es wr chg x yc) k E T st e s1 := fun hq =>
      ⟨s''.mask bs,weak_refl _,E4,maskTT bs T4,hq,hmk,((hh0.trans hh1).trans (hfillH y E' g3)).trans hH0,fun n hn => by have hn2 := (Bool.or_eq_false_iff.1 hn).2; rw [hkeep n hn2,g4 n hn2,fr1 n hn2,fr0 n hn]⟩
     cases e with
     | exit id => exact out r1
     | ret => exact out r1
     | normal =>
      dsimp only at r1
      split at r1
      rotate_left
      ·exact r1.elim
      rename_i z2 hhead hz
      obtain ⟨s3,E3,w3,c3,hh3,fr3,ag3⟩ := norm_conc (m := X.m) (ds := fun n => memN n bs) (chg := chg) ho hq hmk
      generalize hT3:normT X.ns es (maskTT bs T4) = T3 at c3 hh3 hhead hz
      simp only [headOk,Bool.and_eq_true,List.all_eq_true,List.mem_range,Bool.or_eq_true] at hhead
      obtain ⟨hsl,hes⟩ := hhead
      have hH := hH0.trans hh3
      have hagree:∀ s',memN s' chg = false→E3.vr s' = E'.vr s'∧E3.ln s' = E'.ln s' := by
       intro s' hm
       refine (hH s').2.2.1 ?_
       rcases Nat.lt_or_ge s' X.ns with hlt | hge
       ·rcases (hsl s' hlt).2 with hc | hc
        ·rw [hm] at hc; cases hc
        ·have := Nat.eq_of_beq_eq_true hc
         simp only [fill,hm]; exact this
       ·rw [c3.v0 s' hge,g2.v0 s' hge]
      refine ⟨s3,w3,ih s3 z2 E3 ?_ (fun s' hm => ⟨(hagree s' hm).1.trans (g3 s' hm).1,(hagree s' hm).2.trans (g3 s' hm).2⟩) (fun n hn => by rw [fr3 n hn,hkeep n hn,g4 n hn]) r1⟩
      refine fill_conc c3 hz ?_ ?_ ?_ c1.v0 hchg'
      ·rintro e he s' t (rfl | rfl)
       ·have := hes _ he
        simp only [Bool.and_eq_true] at this
        exact eq_of_beq this.2
       ·have := hes _ he
        simp only [Bool.and_eq_true] at this
        exact eq_of_beq this.2
      ·intro n hn
       have h0 := g2.ts n
       simp only [fill,hn] at h0
       rw [fr3 n hn,hkeep n hn]
       exact killL_killL h0 hagree
      ·intro s' hw
       rcases Nat.lt_or_ge s' X.ns with hlt | hge
       ·have hc:T3.c s' = (fill T1 es wr chg (fun n => memN n bs) y).c s' := by
         refine (hH s').2.2.2 ?_
         rcases (hsl s' hlt).1 with hc | hc
         ·rw [hw] at hc; cases hc
         ·have := Nat.eq_of_beq_eq_true hc
          rw [this]
          simp only [fill,hw,Bool.false_or]
        have h0 := c3.c s'
        rw [hc] at h0
        simp only [fill,hw] at h0
        exact h0
       ·have h0 := g2.c s'
        simp only [fill,hw] at h0
        have e1:s.hp[s']? = none := by rw [List.getElem?_eq_none_iff,g2.lh]; exact hge
        rw [e1] at h0
        have e2:s3.hp[s']? = none := by rw [List.getElem?_eq_none_iff,c3.lh]; exact hge
        rw [e2]
        cases hkc:killCs chg (T1.c s') with
        | dead => trivial
        | cells => rw [hkc] at h0; exact h0.elim
        | dyn => rw [hkc] at h0; exact h0.elim
  exact rounds (fn x0) st1 y0 E1 (fill_conc c1 hpe (fun _ _ _ _ _ => rfl) (fun n _ => killL_of (c1.ts n) (fun _ _ => ⟨rfl,rfl⟩)) (fun s _ => killCs_of (c1.c s)) c1.v0 hchg') (fun _ _ => ⟨rfl,rfl⟩) (fun _ _ => rfl) hk.open

def res1T (T:TSt):ARes→Option TV
 | .tmp t => some (unopt (T.ts t))
 | .cell1 t => loadT T.c none (unopt (T.ts t))
 | .celln t n => loadT T.c (some n) (unopt (T.ts t))
def resT (T:TSt):List ARes→Option (List TV)
 | [] => some []
 | r :: rs => match res1T T r,resT T rs with
  | some v,some vs => some (v :: vs)
  | _,_ => none
def finT (T:TSt) (rs:List PSh) (res:List ARes) (K:(tyPs rs).den→Prop):Prop := match resT T res with
 | some vs => match packPs T.c rs vs with
  | some y => K y
  | none => False
 | none => False

structure TFn where
 nt:Nat
 ns:Nat
 res:List ARes
 code:TCode
def TFn.erase (F:TFn):AFn := ⟨F.nt,F.ns,F.res,F.code.erase⟩

def listT (l:List TV) (n:Nat):TV := match l,n with
 | [],_ => .und
 | v :: _,0 => v
 | _ :: r,n + 1 => listT r n
def initT (args:List TV):TSt := ⟨listT args,fun _ => .dead,fun _ => 0,fun _ => 0⟩

def tfn (F:TFn) (A:Nat→Ty) (C:Cons) (ps rs:List PSh) (x:(tyPs ps).den) (K:(tyPs rs).den→Prop):Prop :=
 match Nat.ble ps.length F.nt with
 | true => tev ⟨F.nt,F.ns,0,A,C⟩ F.code (fun e T => match e with
  | .exit _ => False
  | _ => finT T rs F.res K) (initT (tvPs ps x))
 | false => False

omit [Laid] in
theorem listT_rel:∀ {l:List TV} {vs:List V},LRel E l vs→∀ (n k:Nat),TRel E (listT l n) (((vs ++ List.replicate k .und)[n]?).getD .und)
 | [],vs,_,n,k => .und _
 | v :: r,vs,h,0,k => by
  obtain ⟨u,us,rfl,h1,h2⟩ := h.inv_cons
  exact h1
 | v :: r,vs,h,n + 1,k => by
  obtain ⟨u,us,rfl,h1,h2⟩ := h.inv_cons
  exact listT_rel h2 n k

omit [Laid] in
theorem res1T_rel (h:Conc X.nt X.ns E T st) {r:ARes} {v:TV} (hr:res1T T r = some v):∃ u,resV1 st r = some u∧TRel E v u := by
 cases r with
 | tmp t =>
  simp only [res1T,sJ] at hr; subst hr
  exact ⟨_,rfl,unopt_rel (h.ts t)⟩
 | cell1 t =>
  obtain ⟨cs,h1,u,h2,h3⟩ := load_rel h (unopt_rel (h.ts t)) (by simpa only [res1T] using hr)
  exact ⟨u,by simp only [resV1,h1,h2],h3⟩
 | celln t n =>
  obtain ⟨cs,h1,h2,h3⟩ := load_rel h (unopt_rel (h.ts t)) (by simpa only [res1T] using hr)
  exact ⟨_,by simp only [resV1,h1]; rw [if_pos h2],h3⟩
omit [Laid] in
theorem resT_rel (h:Conc X.nt X.ns E T st):∀ {rs:List ARes} {vs:List TV},resT T rs = some vs→∃ us,optAll (resV1 st) rs = some us∧LRel E vs us
 | [],vs,hr => by
  simp only [resT,sJ] at hr; subst hr
  exact ⟨[],rfl,.nil⟩
 | r :: rs,vs,hr => by
  simp only [resT] at hr
  split at hr
  ·rename_i v vs' h1 h2
   simp only [sJ] at hr; subst hr
   obtain ⟨u,g1,g2⟩ := res1T_rel h h1
   obtain ⟨us,q1,q2⟩ := resT_rel h h2
   exact ⟨u :: us,by simp only [optAll,g1,q1],(LRel.one g2).append q2⟩
  ·cases hr

omit [Laid] in
theorem vle_tup {as bs:List V} (h:VLeL as bs):VLe (.tup as) (.tup bs) := fun S w v hv => by
 obtain ⟨arr,rfl,hn,hc⟩ := inv_tup hv
 refine .tup _ _ (by rw [hn,h.1]) fun i c hi => ?_
 obtain ⟨a,ha⟩ := get_of_len h.1 hi
 exact h.2 i a c ha hi _ _ _ (hc i a ha)

theorem ret_tfn {f:FuncId} {F:TFn} (hc:cFn P f = some F.erase) {A:Nat→Ty} {C:Cons} (hC:ConsOk P C) {ps rs:List PSh} {x:(tyPs ps).den} {y:(tyPs rs).den} (h:tfn F A C ps rs x (fun z => z = y)):Ret P f (valPs ps x) (valR rs y) := by
 unfold tfn at h
 split at h
 rotate_left
 ·exact h.elim
 rename_i hle
 have hle := Nat.le_of_ble_eq_true hle
 let X:Cx := ⟨F.nt,F.ns,0,A,C⟩
 have hargs := tvPs_rel (E := ⟨fun _ => 0,fun _ => 0⟩) ps x
 have hplen:∀ (ps:List PSh) (x:(tyPs ps).den),(valPs ps x).length = ps.length := by
  intro ps
  induction ps with
  | nil => intro x; rfl
  | cons p r ih =>
   intro x
   cases r with
   | nil => rfl
   | cons q r => simp only [valPs,List.length_cons]; rw [ih]; rfl
 have hinit:Conc X.nt X.ns ⟨fun _ => 0,fun _ => 0⟩ (initT (tvPs ps x)) (initSt F.erase (valPs ps x)) := by
  refine ⟨?_,by simp [initSt,TFn.erase,X],fun n => ?_,fun s => by cases (initSt F.erase (valPs ps x)).hp[s]? <;> trivial,fun _ _ => rfl⟩
  ·simp only [initSt,TFn.erase,List.length_append,List.length_replicate,hplen]
   show _ = F.nt
   omega
  ·exact listT_rel hargs n _
 -- what lies behind is less than what is asked
 have key:∃ r,VLe r (valR rs y)∧True := ⟨_,.refl _,trivial⟩
 intro w S vals hn hv hS hG
 have hrun := tev_sound (P := P) hC F.code _ _ _ _ hinit h
 -- through the contract of the body's own results
 unfold cFn at hc
 split at hc
 ·rename_i fn hfn
  split at hc
  ·rename_i c hb
   split at hc
   ·rename_i ac rs' hac hrs
    simp only [sJ,TFn.erase,AFn.mk.injEq] at hc
    obtain ⟨e1,e2,e3,e4⟩ := hc
    subst e3 e4
    refine callsIn_of_wp_marks (F := Fw none) (fn := fn) (c := c) hfn hb trivial ?_ rfl
    refine awp_sound c true _ 0 w S (fun _ => False) (Bs0 w.heap.size) none _ _ _ _ w (fun _ => ⟨rfl,fun _ _ _ e => e⟩) (Nat.le_refl _) hac (fun _ _ e => e) ⟨_,_,init_sim hn hv hS hG (F := F.erase) e1.symm⟩ hrun ?_
    intro e s a' w' hq ⟨Φ,S1,hsim⟩
    obtain ⟨E',T',hk,hcon,_,_⟩ := hq
    have fin:finT T' rs F.res (fun z => z = y)→LeavesInM (Fw none) 0 P fn a'.tmps
      (fun e w' => ∃ x S',e = .returned x∧(∀ b,S b→S' b)∧(∀ b,S' b→S b ∨ w.heap.size≤b)∧(∀ b,S' b→b < w'.heap.size)∧VRel Plc0 S' w' (valR rs y) x∧Fr (fun _ => False) w w') a'.defers .returning w' := by
     intro hfin
     refine leaves_marks (Nat.le_refl _) (fun _ _ _ e => e) ?_ _ _ hsim
     intro w' hsim
     unfold finT at hfin
     split at hfin
     ·rename_i vs hvs
      split at hfin
      ·rename_i z hz
       subst hfin
       obtain ⟨us,h1,h2⟩ := resT_rel hcon hvs
       obtain ⟨as,g1,g2,g3⟩ := packPs_rel hcon hz h2
       -- the value that comes back
       have hval:∃ v v',resV s F.res = some v∧purR s.hp v = some v'∧VLe v' (valR rs z) := by
        have hlen:as.length = us.length := (optAll_get _ _ g1).1
        match us,as,hlen,h1,g1,g2 with
        | [u],[a],_,h1,g1,g2 =>
         have hu:pur s.hp u = some a := by
          simp only [optAll] at g1
          split at g1
          ·rename_i q _ hq hq2
           simp only [sJ,List.cons.injEq] at g1 hq2
           rw [hq,g1.1]
          ·cases g1
         have hne:∀ l,u ≠ .tup l := fun l e => by subst e; simp [pur] at hu
         refine ⟨u,a,by simp only [resV,h1],?_,?_⟩
         ·cases u <;> first | exact hu | exact absurd rfl (hne _)
         ·have hl := g2.1
          unfold valR
          match hp:valPs rs z,hl with
          | [b],_ => exact g2.2 0 a b rfl (by rw [hp]; rfl)
        | [],[],_,h1,g1,g2 =>
         refine ⟨.tup [],.tup [],by simp only [resV,h1],rfl,?_⟩
         have hl := g2.1
         unfold valR
         match hp:valPs rs z,hl with
         | [],_ => exact .refl _
        | u :: u' :: us,a :: a' :: as,_,h1,g1,g2 =>
         refine ⟨.tup (u :: u' :: us),.tup (a :: a' :: as),by simp only [resV,h1],by simp only [purR,g1,Option.map_some],?_⟩
         have hl := g2.1
         unfold valR
         match hp:valPs rs z,hl with
         | b :: b' :: bs,_ => rw [hp] at g2; exact vle_tup g2
       obtain ⟨v,v',r1,r2,r3⟩ := hval
       obtain ⟨xv,hx,hvx⟩ := results_run hsim hrs r1
       obtain ⟨S2,k1,k2,k3⟩ := frzAll_sim (slotsR v) S1 s hsim (fun _ _ => Nat.zero_le _)
       exact ⟨xv,hx,xv,S2,rfl,k3.Sold,fun b hb => (k3.Snew b hb).imp id (fun h => h.resolve_right (fun e => e)),k3.Slt,r3 _ _ _ (purR_rel hsim k1 hvx r2 k2),k3.frame⟩
      ·exact hfin.elim
     ·exact hfin.elim
    cases e with
    | normal => exact fin hk
    | ret => exact fin hk
    | exit id => exact hk.elim
   ·cases hc
  ·cases hc
 ·cases hc

end
end Go.Mx
