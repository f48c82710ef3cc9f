/- Code does what is said. -/
import Derived.Test.YtonjnpefnbnohaaTxJ
namespace Go.Mx
section
variable {E : Env} {P : Program} {X : Cx} {nt ns m : Nat} {T : TSt} {st : St}

theorem weak_trans {s1 s2 s3 : St} (h1 : Weak m s1 s2) (h2 : Weak m s2 s3) : Weak m s1 s3 := fun w0 S0 Jo D Φ S a w h => by
  obtain ⟨Φ', S', h'⟩ := h1 w0 S0 Jo D Φ S a w h
  exact h2 w0 S0 Jo D Φ' S' a w h'

theorem sim_ts {w0 : World} {S0 Jo : Nat → Prop} {D : List Deferred} {Φ : Plc} {S : Nat → Prop} {a : Act} {w : World} (h : Sim m w0 S0 Jo D Φ S st a w) {n : Nat} {v : V} (hv : VRel Φ S w v (a.tmps.getD n undef)) : Sim m w0 S0 Jo D Φ S ⟨st.ts.set n v, st.hp⟩ a w := by
  refine ⟨h.defers, by simp [h.size], fun t u hu => ?_, h.hp, h.fresh, h.inj, h.Slt, h.Sold, h.Snew, h.frame, h.io⟩
  rw [List.getElem?_set] at hu
  by_cases e : n = t
  · subst e
    rw [if_pos rfl] at hu
    split at hu
    · simp only [Option.some.injEq] at hu; subst hu; exact hv
    · cases hu
  · rw [if_neg e] at hu; exact h.ts t u hu

theorem nil_own (h : Conc nt ns E T st) {n s : Nat} (t : Ty) (hn : T.ts n = .nil) (hs : s < ns) : ∃ st' E', Weak m st st' ∧ Conc nt ns E' (putT (allocT T s (.dyn true t [])) (some n) (.own s t)) st' ∧ Hist E T E' (putT (allocT T s (.dyn true t [])) (some n) (.own s t)) ∧
    (∀ n', n' ≠ n → st'.get (.t n') = st.get (.t n')) ∧ ∀ s', s' ≠ s → E'.vr s' = E.vr s' ∧ E'.ln s' = E.ln s' := by
  have hb := List.getElem?_eq_getElem (l := st.hp) (i := s) (by rw [h.lh]; exact hs)
  generalize st.hp[s]'(by rw [h.lh]; exact hs) = b at hb
  have hT := h.ts n
  rw [hn] at hT
  obtain ⟨k', hk⟩ := hT.inv_nil
  have hlt : n < st.ts.length := by
    rcases Nat.lt_or_ge n st.ts.length with hlt | hge
    · exact hlt
    · simp only [St.get, List.getElem?_eq_none hge, Option.getD_none] at hk; cases hk
  obtain ⟨c1, c2⟩ := alloc_conc (ver := b.ver + 1) (len := 0) (cs := []) h hb (c := .dyn true t []) ⟨Env.at_vr.symm, rfl, rfl, Env.at_ln, [], rfl, ⟨rfl, by simp⟩⟩
  have hown : TRel (E.at s (b.ver + 1) 0) (.own s t) (.ref s (b.ver + 1) 0 0 t.n) := by
    have := TRel.own (E := E.at s (b.ver + 1) 0) s t
    rw [Env.at_vr, Env.at_ln] at this; exact this
  refine ⟨⟨st.ts.set n (.ref s (b.ver + 1) 0 0 t.n), st.hp.set s ⟨b.ver + 1, .live, []⟩⟩, E.at s (b.ver + 1) 0, ?_, ?_, c2.trans (fun s => ⟨Nat.le_refl _, Nat.le_refl _, fun _ => ⟨rfl, rfl⟩, fun _ => rfl⟩), ?_, fun s' hs' => Env.at_ne hs'⟩
  · intro w0 S0 Jo D Φ S a w hsim
    obtain ⟨Φ', g1, g2, g3⟩ := hsim.bump hb (p := .virgin) (cs := []) (.inr rfl) (.inl ⟨rfl, rfl⟩)
    refine ⟨Φ', S, sim_ts g3 ?_⟩
    have hv := g3.ts n (.p (.sl k' [] true)) (by
      have : st.ts[n]? = some (.p (.sl k' [] true)) := by
        simp only [St.get, List.getElem?_eq_getElem hlt, Option.getD_some] at hk
        rw [List.getElem?_eq_getElem hlt, hk]
      exact this)
    generalize a.tmps.getD n undef = u at hv ⊢
    cases hv with
    | p _ _ hv =>
      cases hv with
      | slnil => exact .refv _ _ _ _ g2
      | sl0 _ _ a cap hc => rw [hc rfl]; exact .refv _ _ _ _ g2
      | sl _ _ _ b o n cap cell hs hn' h0 => simp at hn'; omega
  · refine ⟨by simp [h.lt], c1.lh, fun n' => ?_, c1.c, c1.v0⟩
    simp only [putT, St.get, List.getElem?_set]
    by_cases e : n' = n
    · subst e
      rw [beq_self, if_pos rfl, if_pos hlt]
      exact hown
    · rw [beq_ne e, if_neg (fun x => e x.symm)]
      exact c1.ts n'
  · intro n' hn'
    simp only [St.get, List.getElem?_set]
    rw [if_neg (fun e => hn' e.symm)]

theorem norm_conc {ds : Nat → Bool} {chg : List Nat} : ∀ {es : List Ent} {E : Env} {T : TSt} {st : St}, (∀ n s t, Ent.o n s t ∈ es → ds n = true ∧ memN s chg = true) → Conc nt ns E T st →
    ∃ st' E', Weak m st st' ∧ Conc nt ns E' (normT ns es T) st' ∧ Hist E T E' (normT ns es T) ∧ (∀ n, ds n = false → st'.get (.t n) = st.get (.t n)) ∧ ∀ s, memN s chg = false → E'.vr s = E.vr s ∧ E'.ln s = E.ln s
  | [], E, T, st, _, h => ⟨st, E, weak_refl st, h, .refl _ _, fun _ _ => rfl, fun _ _ => ⟨rfl, rfl⟩⟩
  | e :: r, E, T, st, ho, h => by
    have hr : ∀ n s t, Ent.o n s t ∈ r → ds n = true ∧ memN s chg = true := fun n s t hm => ho n s t (by simp [hm])
    cases e with
    | o n s t =>
      simp only [normT]
      split
      · rename_i hn
        split
        · rename_i hs
          have hs : s < ns := Nat.ble_eq.mp hs
          obtain ⟨st1, E1, g1, g2, g3, g4, g5⟩ := nil_own (m := m) h t hn hs
          obtain ⟨st2, E2, q1, q2, q3, q4, q5⟩ := norm_conc hr g2
          obtain ⟨o1, o2⟩ := ho n s t (by simp)
          refine ⟨st2, E2, weak_trans g1 q1, q2, g3.trans q3, fun n' hn' => ?_, fun s' hs' => ?_⟩
          · rw [q4 n' hn', g4 n' (fun e => by subst e; rw [o1] at hn'; cases hn')]
          · have hne : s' ≠ s := fun e => by subst e; rw [o2] at hs'; cases hs'
            exact ⟨(q5 s' hs').1.trans (g5 s' hne).1, (q5 s' hs').2.trans (g5 s' hne).2⟩
        · exact norm_conc (es := r) hr h
      · exact norm_conc (es := r) hr h
    | _ => exact norm_conc (es := r) hr h

theorem explode_le {t : Ty} {x : t.den} {ps : List Pv} (h : LeL ps (t.enc x)) : LRel E (explode t x) (ps.map .p) := by
  refine ⟨by rw [explode_len, List.length_map, ← h.1, Ty.enc_len], fun i c v hc hv => ?_⟩
  rw [List.getElem?_map] at hv
  cases hq : ps[i]? with
  | none => simp [hq] at hv
  | some q => simp only [hq, Option.map_some, Option.some.injEq] at hv; subst hv; exact .pure c q (explode_pt h hc hq)

theorem entTs_rel (h : Conc nt ns E T st) {e : Ent} {x : e.ty.den} {n : Nat} {v : TV} (hx : entGet T e = some x) (hv : entTs n e x = some v) : TRel E v (st.get (.t n)) := by
  cases e with
  | v n' t =>
    simp only [entTs] at hv
    split at hv
    · rename_i hn
      have hn := Nat.eq_of_beq_eq_true hn; subst hn
      simp only [entGet] at hx
      split at hx
      · obtain ⟨ps, g1, g2, g3⟩ := imp1_rel hx (LRel.one (h.ts n'))
        split at hv
        · rename_i c hc
          simp only [Option.some.injEq] at hv; subst hv
          have := explode_le (E := E) g2
          rw [hc, ← g1] at this
          exact this.2 0 c _ rfl rfl
        · simp only [Option.some.injEq] at hv; subst hv; exact .und _
      · cases hx
    · cases hv
  | a n' t =>
    simp only [entTs] at hv
    split at hv
    · rename_i hn
      have hn := Nat.eq_of_beq_eq_true hn; subst hn
      simp only [Option.some.injEq] at hv; subst hv
      simp only [entGet] at hx
      split at hx
      · rename_i cs hcs
        have hr := h.ts n'
        rw [hcs] at hr
        obtain ⟨vs, he, hl⟩ := hr.agg'
        obtain ⟨ps, g1, g2, g3⟩ := imp1_rel hx hl
        rw [he, g1]
        exact (explode_le g2).agg
      · cases hx
    · cases hv
  | o n' s t =>
    simp only [entTs] at hv
    split at hv
    · rename_i hn
      have hn := Nat.eq_of_beq_eq_true hn; subst hn
      simp only [Option.some.injEq] at hv; subst hv
      simp only [entGet] at hx
      split at hx
      · rename_i s' t' hts
        split at hx
        · rename_i t'' l hb hc
          simp only [Bool.and_eq_true] at hb
          have e1 := Nat.eq_of_beq_eq_true hb.1
          have e2 := Ty.beq_eq hb.2
          subst e1 e2
          have := h.ts n'
          rw [hts] at this; exact this
        · cases hx
      · cases hx
    · cases hv
  | _ => cases hv

theorem fillTs_rel (h : Conc nt ns E T st) {n : Nat} : ∀ {es : List Ent} {x : (tyEs es).den} {v : TV}, packEs T es = some x → fillTs n es x = some v → TRel E v (st.get (.t n))
  | [], _, _, _, hv => by cases hv
  | [e], x, v, hx, hv => entTs_rel h hx hv
  | e :: q :: r, x, v, hx, hv => by
    simp only [packEs] at hx
    split at hx
    · rename_i x1 x2 h1 h2
      simp only [Option.some.injEq] at hx; subst hx
      simp only [fillTs] at hv
      split at hv
      · rename_i v' hv'
        simp only [Option.some.injEq] at hv; subst hv
        exact entTs_rel h h1 hv'
      · exact fillTs_rel h h2 hv
    · cases hx

theorem entC_rel (h : Conc nt ns E T st) {e : Ent} {x : e.ty.den} {s : Nat} {live : Bool} {c : TC} (hl : ∀ s' t, e = .c s' t ∨ e = .d s' t → isLive (T.c s') = live ∨ s' ≠ s) (hx : entGet T e = some x) (hc : entC live s e x = some c) : BOk E s c st.hp[s]? := by
  cases e with
  | o n s' t =>
    simp only [entC] at hc
    split at hc
    · rename_i hs
      have hs := Nat.eq_of_beq_eq_true hs; subst hs
      simp only [Option.some.injEq] at hc; subst hc
      simp only [entGet] at hx
      split at hx
      · split at hx
        · rename_i s2 t2 _ _ t'' l hb hd
          have hb' := h.c s'
          rw [hd] at hb'
          cases hbs : st.hp[s']? with
          | none => rw [hbs] at hb'; exact hb'.elim
          | some b =>
            rw [hbs] at hb'
            obtain ⟨k1, k2, k3, k4, es, k5, k6⟩ := hb'
            obtain ⟨e1, e2⟩ := castL_le hx
            have hlen := congrArg List.length e2
            simp only [List.length_map] at hlen
            exact ⟨k1, k2, k3, by rw [k4, hlen], es, k5, by rw [← e2]; exact k6⟩
        · cases hx
      · cases hx
    · cases hc
  | c s' t =>
    simp only [entC] at hc
    split at hc
    · rename_i hs
      have hs := Nat.eq_of_beq_eq_true hs; subst hs
      simp only [Option.some.injEq] at hc; subst hc
      simp only [entGet] at hx
      split at hx
      · rename_i live' cs hd
        have hb' := h.c s'
        have hl' := (hl s' t (.inl rfl)).resolve_right (fun e => e rfl)
        rw [hd] at hb' hl'
        cases hbs : st.hp[s']? with
        | none => rw [hbs] at hb'; exact hb'.elim
        | some b =>
          rw [hbs] at hb'
          obtain ⟨k1, k2, k3, k4⟩ := hb'
          obtain ⟨ps, g1, g2, g3⟩ := imp1_rel hx k4
          have : live' = live := by cases live' <;> simpa [isLive] using hl'
          subst this
          exact ⟨k1, k2, k3, by rw [g1]; exact explode_le g2⟩
      · cases hx
    · cases hc
  | d s' t =>
    simp only [entC] at hc
    split at hc
    · rename_i hs
      have hs := Nat.eq_of_beq_eq_true hs; subst hs
      simp only [Option.some.injEq] at hc; subst hc
      simp only [entGet] at hx
      split at hx
      · rename_i live' t'' l hd
        have hb' := h.c s'
        have hl' := (hl s' t (.inr rfl)).resolve_right (fun e => e rfl)
        rw [hd] at hb' hl'
        cases hbs : st.hp[s']? with
        | none => rw [hbs] at hb'; exact hb'.elim
        | some b =>
          rw [hbs] at hb'
          obtain ⟨k1, k2, k3, k4, es, k5, k6⟩ := hb'
          obtain ⟨e1, e2⟩ := castL_le hx
          have hlen := congrArg List.length e2
          simp only [List.length_map] at hlen
          have : live' = live := by cases live' <;> simpa [isLive] using hl'
          subst this
          exact ⟨k1, k2, k3, by rw [k4, hlen], es, k5, by rw [← e2]; exact k6⟩
      · cases hx
    · cases hc
  | _ => cases hc

theorem fillC_rel (h : Conc nt ns E T st) {s : Nat} {live : Bool} : ∀ {es : List Ent} {x : (tyEs es).den} {c : TC}, (∀ e ∈ es, ∀ s' t, e = .c s' t ∨ e = .d s' t → isLive (T.c s') = live ∨ s' ≠ s) → packEs T es = some x → fillC live s es x = some c → BOk E s c st.hp[s]?
  | [], _, _, _, _, hv => by cases hv
  | [e], x, v, hl, hx, hv => entC_rel h (hl e (by simp)) hx hv
  | e :: q :: r, x, v, hl, hx, hv => by
    simp only [packEs] at hx
    split at hx
    · rename_i x1 x2 h1 h2
      simp only [Option.some.injEq] at hx; subst hx
      simp only [fillC] at hv
      split at hv
      · rename_i v' hv'
        simp only [Option.some.injEq] at hv; subst hv
        exact entC_rel h (hl e (by simp)) h1 hv'
      · exact fillC_rel h (fun e he => hl e (by simp only [List.mem_cons] at he ⊢; exact .inr he)) h2 hv
    · cases hx

theorem fill_conc {E' : Env} {T' : TSt} {es : List Ent} {wr chg : List Nat} {ds : Nat → Bool} {x : (tyEs es).den} (h : Conc nt ns E' T' st) (hp : packEs T' es = some x) (hl : ∀ e ∈ es, ∀ s t, e = .c s t ∨ e = .d s t → isLive (T'.c s) = isLive (T.c s))
    (kt : ∀ n, ds n = false → TRel E' (killL chg (T.ts n)) (st.get (.t n))) (kc : ∀ s, memN s wr = false → BOk E' s (killCs chg (T.c s)) st.hp[s]?) (hv : ∀ s, ns ≤ s → T.v s = 0) (hchg : ∀ s, memN s chg = true → s < ns) : Conc nt ns E' (fill T es wr chg ds x) st := by
  refine ⟨h.lt, h.lh, fun n => ?_, fun s => ?_, fun s hs => ?_⟩
  · simp only [fill]
    split
    · split
      · rename_i v hv; exact fillTs_rel h hp hv
      · exact .und _
    · rename_i hd; exact kt n hd
  · simp only [fill]
    split
    · split
      · rename_i c hc
        refine fillC_rel h (fun e he s' t hst => ?_) hp hc
        by_cases es : s' = s
        · subst es; exact .inl (hl e he s' t hst)
        · exact .inr es
      · cases st.hp[s]? <;> trivial
    · rename_i hw; exact kc s hw
  · simp only [fill]
    split
    · rename_i hm; have := hchg s hm; omega
    · exact hv s hs

theorem killL_of {E' : Env} {chg : List Nat} {c : TV} {v : V} (h : TRel E c v) (ha : ∀ s, memN s chg = false → E'.vr s = E.vr s ∧ E'.ln s = E.ln s) : TRel E' (killL chg c) v := by
  unfold killL
  split
  · exact .und v
  · rename_i hk
    refine h.congr fun s hs => ha s ?_
    cases hm : memN s chg with
    | false => rfl
    | true =>
      have : chg.any (fun s => hasS s c) = true := List.any_eq_true.2 ⟨s, memN_iff.1 hm, hs⟩
      rw [this] at hk; cases hk
theorem killL_killL {E' : Env} {chg : List Nat} {c : TV} {v : V} (h : TRel E (killL chg c) v) (ha : ∀ s, memN s chg = false → E'.vr s = E.vr s ∧ E'.ln s = E.ln s) : TRel E' (killL chg c) v := by
  by_cases hk : chg.any (fun s => hasS s c) = true
  · simp only [killL, hk]; exact .und v
  · have e : killL chg c = c := by simp only [killL]; split <;> simp_all
    rw [e] at h
    exact killL_of h ha
theorem killCs_of {chg : List Nat} {s : Nat} {c : TC} {b : Option Blk} (h : BOk E s c b) : BOk E s (killCs chg c) b := by
  cases c with
  | cells live cs =>
    cases b with
    | none => exact h.elim
    | some b =>
      obtain ⟨k1, k2, k3, k4⟩ := h
      refine ⟨k1, k2, k3, by simp [k4.1], fun i c v h1 h2 => ?_⟩
      rw [List.getElem?_map] at h1
      cases hc : cs[i]? with
      | none => simp [hc] at h1
      | some c' =>
        simp only [hc, Option.map_some, Option.some.injEq] at h1; subst h1
        exact killL_of (k4.2 i c' v hc h2) (fun _ _ => ⟨rfl, rfl⟩)
  | _ => exact h
theorem killCs_id {chg : List Nat} {c : TC} (h : hasCs chg c = false) : killCs chg c = c := by
  cases c with
  | cells live cs =>
    simp only [hasCs, List.any_eq_false] at h
    simp only [killCs]
    congr 1
    have : cs.map (killL chg) = cs.map id := by
      apply List.map_congr_left
      intro v hv
      simp only [killL, id]
      split
      · rename_i hk; exact absurd hk (h v hv)
      · rfl
    rw [this, List.map_id]
  | _ => rfl
end
end Go.Mx
