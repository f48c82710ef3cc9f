/- What an operation does: each abstract operation is one of the machine. No condition. -/
import Derived.Test.YtonjnpefnbnohaaMxL
namespace Go.Mx
open Go.RowKit

section
variable {P : Program} {m : Nat} {w0 : World} {S0 Jo : Nat → Prop} {D : List Deferred} {Φ : Plc} {S : Nat → Prop} {st : St} {a : Act} {w : World}

def Does (P : Program) (m : Nat) (w0 : World) (S0 Jo : Nat → Prop) (D : List Deferred) (st : St) (a : Act) (w : World) (sem : Sem Next) (v : V) (hp' : List Blk) : Prop :=
  ∃ nx x w' Φ' S', sem.run P w = .ok nx w' ∧ (nx = .value x ∨ (nx = .skip ∧ x = undef)) ∧ Sim m w0 S0 Jo D Φ' S' ⟨st.ts, hp'⟩ a w' ∧ VRel Φ' S' w' v x

theorem Gives.does {sem : Sem Value} {v : V} {hp' : List Blk} (h : Gives P m w0 S0 Jo D st a w sem v hp') : Does P m w0 S0 Jo D st a w (do pure (.value (← sem))) v hp' := by
  obtain ⟨x, w', Φ', S', h1, h2, h3⟩ := h
  exact ⟨.value x, x, w', Φ', S', by rw [Sem.run_bind, h1]; rfl, .inl rfl, h2, h3⟩

theorem und_agg {t : TypeId} {l : List (Bool × Nat)} {d : TypeDesc} (hu : P.underlying t = some d) (h1 : ∀ k, d ≠ .int k) (h2 : d ≠ .bool) (he : eqOffs P 8 t 0 = some l) : agg? P t = some true := by
  rw [agg_of hu]
  unfold eqOffs at he
  rw [hu] at he
  cases d <;> first | rfl | exact absurd rfl (h1 _) | exact absurd rfl h2 | (cases hs : sz? P t <;> rw [hs] at he <;> cases he)

theorem op_sound (h : Sim m w0 S0 Jo D Φ S st a w) {γ : Opd → V} (hγ : ∀ x, VRel Φ S w (γ (cO x)) (a.eval x)) (hγi : ∀ p, γ (.c (.p p)) = .p p) {s : Nat} {own : Bool} {o : Oper} {op : AOp} (hc : cOp P s own o = some op) {v : V} {hp' : List Blk} (hst : astep st.hp γ op = some (v, hp')) :
    Does P m w0 S0 Jo D st a w (execOp a.eval o) v hp' := by
  have g := hγ
  unfold cOp at hc
  unfold execOp
  split at hc
  -- move
  · rename_i x hop
    simp only [Option.some.injEq] at hc; subst hc
    simp only [astep, Option.some.injEq, Prod.mk.injEq] at hst
    obtain ⟨rfl, rfl⟩ := hst
    rw [hop]
    exact ⟨_, _, w, Φ, S, rfl, .inl rfl, h, g x⟩
  -- assign
  · rename_i x hop
    simp only [Option.some.injEq] at hc; subst hc
    simp only [astep, Option.some.injEq, Prod.mk.injEq] at hst
    obtain ⟨rfl, rfl⟩ := hst
    rw [hop]
    exact ⟨_, _, w, Φ, S, rfl, .inl rfl, h, g x⟩
  -- pick
  · rename_i c x y hop
    simp only [Option.some.injEq] at hc; subst hc
    simp only [astep] at hst
    split at hst
    · rename_i b hb
      simp only [Option.some.injEq, Prod.mk.injEq] at hst
      obtain ⟨rfl, rfl⟩ := hst
      rw [hop]
      have hcb := g c
      rw [hb] at hcb
      refine ⟨.value (if b then a.eval x else a.eval y), _, w, Φ, S, ?_, .inl rfl, h, ?_⟩
      · simp [inv_bool hcb, asBool]
      · cases b
        · rw [m_pick_f]; exact rel_unw (g y) rfl
        · rw [m_pick_t]; exact rel_unw (g x) rfl
    · cases hst
  -- nilCheck
  · rename_i x hop
    simp only [Option.some.injEq] at hc; subst hc
    rw [hop]
    have gx := g x
    simp only [astep] at hst
    split at hst
    · rename_i t ver o' hx
      simp only [Option.some.injEq, Prod.mk.injEq] at hst
      obtain ⟨rfl, rfl⟩ := hst
      rw [hx] at gx
      obtain ⟨b0, o0, he⟩ : ∃ b0 o0, a.eval x = .pointer (some ⟨b0, o0, none⟩) := by
        generalize a.eval x = y at gx ⊢
        cases gx
        exact ⟨_, _, rfl⟩
      refine ⟨.value (a.eval x), _, w, Φ, S, ?_, .inl rfl, h, gx⟩
      dsimp only
      rw [he]
      rfl
    · rename_i cs hx
      simp only [Option.some.injEq, Prod.mk.injEq] at hst
      obtain ⟨rfl, rfl⟩ := hst
      rw [hx] at gx
      obtain ⟨b0, o0, he⟩ : ∃ b0 o0, a.eval x = .pointer (some ⟨b0, o0, none⟩) := by
        generalize a.eval x = y at gx ⊢
        cases gx
        exact ⟨_, _, rfl⟩
      refine ⟨.value (a.eval x), _, w, Φ, S, ?_, .inl rfl, h, gx⟩
      dsimp only
      rw [he]
      rfl
    · cases hst
  -- alloc
  · rename_i e hop
    rw [hop]
    cases hz : zero? P e with
    | none => simp [hz] at hc
    | some z =>
      simp only [hz, Option.map_some, Option.some.injEq] at hc; subst hc
      simp only [astep] at hst
      split at hst
      · rename_i b hb
        simp only [Option.some.injEq, Prod.mk.injEq] at hst
        obtain ⟨rfl, rfl⟩ := hst
        exact (give_newz h hb hz).does
      · cases hst
  -- box
  · rename_i e x hop
    rw [hop]
    simp only [Option.some.injEq] at hc; subst hc
    simp only [astep] at hst
    split at hst
    · rename_i b cs hb hcs
      simp only [Option.some.injEq, Prod.mk.injEq] at hst
      obtain ⟨rfl, rfl⟩ := hst
      exact (give_box h hb (g x) hcs).does
    · cases hst
  -- build
  · rename_i t parts hop
    rw [hop]
    split at hc
    · rename_i z fields hz hu
      split at hc
      · rename_i ps hps
        cases hl : (parts.toList.mapM (partOf ps)) with
        | none => rw [hl] at hc; simp at hc
        | some l =>
          rw [hl] at hc
          simp only [Option.map_some, Option.some.injEq] at hc; subst hc
          simp only [astep] at hst
          split at hst
          · rename_i cs hcs
            simp only [Option.some.injEq, Prod.mk.injEq] at hst
            obtain ⟨rfl, rfl⟩ := hst
            exact (give_build_struct h hγ hz hu hps hl hcs).does
          · cases hst
      · cases hc
    · rename_i z len e hz hu
      split at hc
      · rename_i n hn
        simp only [Option.some.injEq] at hc; subst hc
        simp only [astep] at hst
        split at hst
        · rename_i cs hcs
          simp only [Option.some.injEq, Prod.mk.injEq] at hst
          obtain ⟨rfl, rfl⟩ := hst
          exact (give_build_array h hγ hz hu hn hcs).does
        · cases hst
      · cases hc
    · cases hc
  -- buildSlice
  · rename_i t n parts hop
    rw [hop]
    split at hc
    · rename_i e hu
      split at hc
      · rename_i k z hk hz
        split at hc
        · rename_i hcond
          simp only [Option.some.injEq] at hc; subst hc
          simp only [astep] at hst
          split at hst
          · rename_i cs hcs
            obtain ⟨k1, k2⟩ := give_bsl h hγ hu hk hz hcond.1 hcond.2.1 hcond.2.2 hcs
            split at hst
            · split at hst
              · rename_i b hb
                simp only [Option.some.injEq, Prod.mk.injEq] at hst
                obtain ⟨rfl, rfl⟩ := hst
                exact (k1 _ _ hb).does
              · cases hst
            · split at hst
              · rename_i ps hps
                simp only [Option.some.injEq, Prod.mk.injEq] at hst
                obtain ⟨rfl, rfl⟩ := hst
                exact (k2 _ hps).does
              · cases hst
          · cases hst
        · cases hc
      · cases hc
    · cases hc
  -- load
  · rename_i t x hop
    rw [hop]
    split at hc
    · rename_i n ha hn
      simp only [Option.some.injEq] at hc; subst hc
      simp only [astep] at hst
      split at hst
      · rename_i cs hcs
        split at hst
        · rename_i hle
          simp only [Option.some.injEq, Prod.mk.injEq] at hst
          obtain ⟨rfl, rfl⟩ := hst
          exact (give_ldn h ha hn (g x) hcs hle).does
        · cases hst
      · cases hst
    · rename_i n ha hn
      simp only [Option.some.injEq] at hc; subst hc
      simp only [astep] at hst
      split at hst
      · rename_i cs hcs
        cases hu : cs[0]? with
        | none => simp [hu] at hst
        | some u =>
          simp only [hu, Option.map_some, Option.some.injEq, Prod.mk.injEq] at hst
          obtain ⟨rfl, rfl⟩ := hst
          exact (give_ld1 h ha hn (g x) hcs hu).does
      · cases hst
    · cases hc
  -- store
  · rename_i t x y hop
    rw [hop]
    cases hn : sz? P t with
    | none => simp [hn] at hc
    | some n =>
      simp only [hn, Option.map_some, Option.some.injEq] at hc; subst hc
      simp only [astep] at hst
      split at hst
      · rename_i s' ver o' vs hx hvs
        split at hst
        · rename_i b hb
          split at hst
          · rename_i hcond
            obtain ⟨c1, c2, c3, c4, c5⟩ := hcond
            simp only [Option.some.injEq, Prod.mk.injEq] at hst
            obtain ⟨rfl, rfl⟩ := hst
            have hx' := g x
            rw [hx] at hx'
            obtain ⟨w', h1, h2⟩ := give_st h hn hx' (g y) hvs hb c1 c2 c3 c4 c5
            exact ⟨.skip, undef, w', Φ, S, by rw [Sem.run_bind, h1]; rfl, .inr ⟨rfl, rfl⟩, h2, .und _⟩
          · cases hst
        · cases hst
      · cases hst
  -- binOp
  · rename_i op' t x y yt hop
    rw [hop]
    have ints : ∀ {op'' : BinOp}, AOp.bin op'' (cO x) (cO y) = op → Does P m w0 S0 Jo D st a w (do pure (.value (← (do eqGuard op'' t x y (a.eval x) (a.eval y); binOp op'' t (a.eval x) (a.eval y))))) v hp' := by
      intro op'' e
      subst e
      simp only [astep] at hst
      split at hst
      · rename_i k n k' l hx hy
        split at hst
        · rename_i hk
          subst hk
          cases hr : binI op'' k n l with
          | none => simp [hr] at hst
          | some r =>
            simp only [hr, Option.map_some, Option.some.injEq, Prod.mk.injEq] at hst
            obtain ⟨rfl, rfl⟩ := hst
            have gx := g x
            have gy := g y
            rw [hx] at gx
            rw [hy] at gy
            exact (give_bin h gx gy hr).does
        · cases hst
      · cases hst
    have bools : ∀ {op'' : BinOp} {neg : Bool}, ((op'' = .eql ∧ neg = false) ∨ (op'' = .neq ∧ neg = true)) → P.underlying t = some .bool → AOp.eqb neg (cO x) (cO y) = op → Does P m w0 S0 Jo D st a w (do pure (.value (← (do eqGuard op'' t x y (a.eval x) (a.eval y); binOp op'' t (a.eval x) (a.eval y))))) v hp' := by
      intro op'' neg ho hu e
      subst e
      simp only [astep] at hst
      split at hst
      · rename_i b c hx hy
        simp only [Option.some.injEq, Prod.mk.injEq] at hst
        obtain ⟨rfl, rfl⟩ := hst
        have gx := g x
        have gy := g y
        rw [hx] at gx
        rw [hy] at gy
        exact (give_eqb h ho hu gx gy).does
      · cases hst
    have aggs : ∀ {op'' : BinOp} {neg : Bool} {d : TypeDesc} {l : List (Bool × Nat)} {n : Nat}, ((op'' = .eql ∧ neg = false) ∨ (op'' = .neq ∧ neg = true)) → P.underlying t = some d → (∀ k, d ≠ .int k) → d ≠ .bool → ¬ (P.eqGuardType P.depth t = true) →
        eqOffs P 8 t 0 = some l → sz? P t = some n → AOp.eqa neg n l (cO x) (cO y) = op → Does P m w0 S0 Jo D st a w (do pure (.value (← (do eqGuard op'' t x y (a.eval x) (a.eval y); binOp op'' t (a.eval x) (a.eval y))))) v hp' := by
      intro op'' neg d l n ho hu hd1 hd2 hg hl hn e
      subst e
      simp only [astep] at hst
      split at hst
      · rename_i xs ys hx hy
        split at hst
        · rename_i hlen
          cases hb : eqCells xs ys l with
          | none => simp [hb] at hst
          | some b =>
            simp only [hb, Option.map_some, Option.some.injEq, Prod.mk.injEq] at hst
            obtain ⟨rfl, rfl⟩ := hst
            have gx := g x
            have gy := g y
            rw [hx] at gx
            rw [hy] at gy
            exact (give_eqa h ho (by simpa using hg) hl hn gx gy hlen.1 hlen.2 hb (und_agg hu hd1 hd2 hl)).does
        · cases hst
      · cases hst
    split at hc
    · simp only [Option.some.injEq] at hc; exact ints hc
    · simp only [Option.some.injEq] at hc; exact ints hc
    · rename_i hu; simp only [Option.some.injEq] at hc; exact bools (.inl ⟨rfl, rfl⟩) hu hc
    · rename_i hu; simp only [Option.some.injEq] at hc; exact bools (.inr ⟨rfl, rfl⟩) hu hc
    · rename_i d h1 h2 hu
      split at hc
      · cases hc
      · rename_i hg
        split at hc
        · rename_i l n hl hn
          simp only [Option.some.injEq] at hc
          exact aggs (.inl ⟨rfl, rfl⟩) hu (fun k e => by subst e; exact h1 k rfl) (fun e => by subst e; exact h2 rfl) hg hl hn hc
        · cases hc
    · rename_i d h1 h2 hu
      split at hc
      · cases hc
      · rename_i hg
        split at hc
        · rename_i l n hl hn
          simp only [Option.some.injEq] at hc
          exact aggs (.inr ⟨rfl, rfl⟩) hu (fun k e => by subst e; exact h1 k rfl) (fun e => by subst e; exact h2 rfl) hg hl hn hc
        · cases hc
    · cases hc
    · cases hc
    · simp only [Option.some.injEq] at hc; exact ints hc
  -- not
  · rename_i t x hop
    rw [hop]
    simp only [Option.some.injEq] at hc; subst hc
    simp only [astep] at hst
    split at hst
    · rename_i b hx
      simp only [Option.some.injEq, Prod.mk.injEq] at hst
      obtain ⟨rfl, rfl⟩ := hst
      have gx := g x
      rw [hx] at gx
      exact (give_unot h gx).does
    · cases hst
  -- neg
  · rename_i t x hop
    rw [hop]
    simp only [Option.some.injEq] at hc; subst hc
    simp only [astep] at hst
    split at hst
    · rename_i k n hx
      simp only [Option.some.injEq, Prod.mk.injEq] at hst
      obtain ⟨rfl, rfl⟩ := hst
      have gx := g x
      rw [hx] at gx
      exact (give_uneg h gx).does
    · cases hst
  -- convert
  · rename_i src dst x hop
    rw [hop]
    split at hc
    · rename_i j k hs hd
      simp only [Option.some.injEq] at hc; subst hc
      simp only [astep] at hst
      split at hst
      · rename_i k' n hx
        simp only [Option.some.injEq, Prod.mk.injEq] at hst
        obtain ⟨rfl, rfl⟩ := hst
        have gx := g x
        rw [hx] at gx
        exact (give_conv h hs hd gx).does
      · cases hst
    · cases hc
  -- fieldAddr
  · rename_i t x f hop
    rw [hop]
    split at hc
    · rename_i fields hu
      split at hc
      · rename_i fl hf
        split at hc
        · rename_i n hn
          simp only [Option.some.injEq] at hc; subst hc
          simp only [astep] at hst
          have gx := g x
          split at hst
          · rename_i s' ver o' hx
            simp only [Option.some.injEq, Prod.mk.injEq] at hst
            obtain ⟨rfl, rfl⟩ := hst
            rw [hx] at gx
            exact ((give_fa h hu hf hn).1 _ _ _ gx).does
          · rename_i cs hx
            simp only [Option.some.injEq, Prod.mk.injEq] at hst
            obtain ⟨rfl, rfl⟩ := hst
            rw [hx] at gx
            exact ((give_fa h hu hf hn).2 _ gx).does
          · cases hst
        · cases hc
      · cases hc
    · cases hc
  -- indexAddr
  · rename_i t x i hop
    rw [hop]
    split at hc
    · rename_i e hu
      cases hk : sz? P e with
      | none => simp [hk] at hc
      | some k =>
        simp only [hk, Option.map_some, Option.some.injEq] at hc; subst hc
        simp only [astep] at hst
        have gx := g x
        have gi := g i
        split at hst
        · rename_i k' es full kk n hx hi
          split at hst
          · rename_i hcond
            obtain ⟨c1, c2, rfl⟩ := hcond
            simp only [Option.some.injEq, Prod.mk.injEq] at hst
            obtain ⟨rfl, rfl⟩ := hst
            rw [hx] at gx
            rw [hi] at gi
            exact ((give_ia h hu hk gi c1).1 _ _ gx c2).does
          · cases hst
        · rename_i s' ver o' len k' kk n hx hi
          split at hst
          · rename_i hcond
            obtain ⟨c1, c2, rfl⟩ := hcond
            simp only [Option.some.injEq, Prod.mk.injEq] at hst
            obtain ⟨rfl, rfl⟩ := hst
            rw [hx] at gx
            rw [hi] at gi
            exact ((give_ia h hu hk gi c1).2 _ _ _ _ gx c2).does
          · cases hst
        · cases hst
    · rename_i len e hu
      cases hk : sz? P e with
      | none => simp [hk] at hc
      | some k =>
        simp only [hk, Option.map_some, Option.some.injEq] at hc; subst hc
        simp only [astep] at hst
        have gx := g x
        have gi := g i
        split at hst
        · rename_i s' ver o' kk n hx hi
          split at hst
          · rename_i hcond
            simp only [Option.some.injEq, Prod.mk.injEq] at hst
            obtain ⟨rfl, rfl⟩ := hst
            rw [hx] at gx
            rw [hi] at gi
            exact ((give_iaa h hu hk gi hcond.1 hcond.2).1 _ _ _ gx).does
          · cases hst
        · rename_i cs kk n hx hi
          split at hst
          · rename_i hcond
            simp only [Option.some.injEq, Prod.mk.injEq] at hst
            obtain ⟨rfl, rfl⟩ := hst
            rw [hx] at gx
            rw [hi] at gi
            exact ((give_iaa h hu hk gi hcond.1 hcond.2).2 _ gx).does
          · cases hst
        · cases hst
    · cases hc
  -- field
  · rename_i t x f hop
    rw [hop]
    split at hc
    · rename_i fields hu
      split at hc
      · rename_i fl hf
        have both : ∀ (b : Bool) (n : Nat), agg? P fl.type = some b → sz? P fl.type = some n → AOp.prt fl.offset (if b then some n else none) (cO x) = op → Does P m w0 S0 Jo D st a w (do pure (.value (← Instr.field t (a.eval x) f))) v hp' := by
          intro b n ha hn e
          subst e
          simp only [astep] at hst
          split at hst
          · rename_i cs hx
            cases hv : part? cs fl.offset (if b then some n else none) with
            | none => simp [hv] at hst
            | some v' =>
              simp only [hv, Option.map_some, Option.some.injEq, Prod.mk.injEq] at hst
              obtain ⟨rfl, rfl⟩ := hst
              have gx := g x
              rw [hx] at gx
              exact (give_field h hu hf ha hn gx hv).does
          · cases hst
        split at hc
        · rename_i n ha hn
          simp only [Option.some.injEq] at hc
          exact both true n ha hn hc
        · rename_i n ha hn
          simp only [Option.some.injEq] at hc
          exact both false _ ha hn hc
        · cases hc
      · cases hc
    · cases hc
  -- index
  · rename_i t x i hop
    rw [hop]
    split at hc
    · rename_i len e hu
      split at hc
      · rename_i b k ha hk
        simp only [Option.some.injEq] at hc; subst hc
        simp only [astep] at hst
        split at hst
        · rename_i cs kk n hx hi
          split at hst
          · rename_i hcond
            cases hv : part? cs (n.toNat * k) (if b then some k else none) with
            | none => simp [hv] at hst
            | some v' =>
              simp only [hv, Option.map_some, Option.some.injEq, Prod.mk.injEq] at hst
              obtain ⟨rfl, rfl⟩ := hst
              have gx := g x
              have gi := g i
              rw [hx] at gx
              rw [hi] at gi
              exact (give_idx h hu ha hk gx gi hcond.1 hcond.2 hv).does
          · cases hst
        · cases hst
      · cases hc
    · cases hc
  -- extract
  · rename_i x i hop
    rw [hop]
    simp only [Option.some.injEq] at hc; subst hc
    simp only [astep] at hst
    split at hst
    · rename_i vs hx
      cases hv : vs[i]? with
      | none => simp [hv] at hst
      | some v' =>
        simp only [hv, Option.map_some, Option.some.injEq, Prod.mk.injEq] at hst
        obtain ⟨rfl, rfl⟩ := hst
        have gx := g x
        rw [hx] at gx
        exact (give_ext h gx hv).does
    · cases hst
  -- slice
  · rename_i t x lo hi hop
    rw [hop]
    split at hc
    · rename_i e hu
      cases hk : sz? P e with
      | none => simp [hk] at hc
      | some k =>
        simp only [hk, Option.map_some, Option.some.injEq] at hc; subst hc
        simp only [astep] at hst
        have gx := g x
        split at hst
        · rename_i k' es full hx
          split at hst
          · rename_i l hh hl hhh
            split at hst
            · rename_i hcond
              simp only [Option.some.injEq, Prod.mk.injEq] at hst
              obtain ⟨rfl, rfl⟩ := hst
              rw [hx] at gx
              exact ((give_sl h hγ hu hk).1 _ _ _ _ _ gx hl hhh hcond.1 hcond.2.1 hcond.2.2.1 hcond.2.2.2).does
            · cases hst
          · cases hst
        · rename_i s' ver o' n k' hx
          split at hst
          · rename_i l hh hl hhh
            split at hst
            · rename_i hcond
              obtain ⟨c1, c2, c3, rfl⟩ := hcond
              simp only [Option.some.injEq, Prod.mk.injEq] at hst
              obtain ⟨rfl, rfl⟩ := hst
              rw [hx] at gx
              exact ((give_sl h hγ hu hk).2 _ _ _ _ _ _ gx hl hhh c1 c2 c3).does
            · cases hst
          · cases hst
        · cases hst
    · rename_i n e hu
      cases hk : sz? P e with
      | none => simp [hk] at hc
      | some k =>
        simp only [hk, Option.map_some, Option.some.injEq] at hc; subst hc
        simp only [astep] at hst
        have gx := g x
        split at hst
        · rename_i s' ver o' hx
          split at hst
          · rename_i l hh b hl hhh hb
            split at hst
            · rename_i hcond
              obtain ⟨rfl, c2, c3, c4, c5, c6⟩ := hcond
              simp only [Option.some.injEq, Prod.mk.injEq] at hst
              obtain ⟨rfl, rfl⟩ := hst
              rw [hx] at gx
              exact (give_sla h hγ hu hk gx hb c2 c3 hl hhh c4 c5 c6).does
            · cases hst
          · cases hst
        · cases hst
    · cases hc
  -- makeSlice
  · rename_i t l c hop
    rw [hop]
    split at hc
    · rename_i e hu
      split at hc
      · rename_i i z hi hz
        split at hc
        · rename_i hcond
          simp only [Option.some.injEq] at hc; subst hc
          simp only [astep] at hst
          split at hst
          · rename_i b n hb hl
            split at hst
            · rename_i hcond2
              simp only [Option.some.injEq, Prod.mk.injEq] at hst
              obtain ⟨rfl, rfl⟩ := hst
              have gl := g l
              rw [hl] at gl
              have hsame : a.eval c = a.eval l := by
                have := hcond.2.2
                unfold sameOpd at this
                split at this
                · simp only [beq_iff_eq] at this; rw [this]
                · simp only [Bool.and_eq_true, beq_iff_eq] at this; rw [this.1, this.2]
                · cases this
              have := give_mk (P := P) h hu hi hz hcond.1 hcond.2.1 hb (inv_int gl) hcond2.1 hcond2.2.1 hcond2.2.2
              simp only [hsame]
              exact this.does
            · cases hst
          · cases hst
        · cases hc
      · cases hc
    · cases hc
  -- makeFunc
  · rename_i f first caps hop
    rw [hop]
    split at hc
    · rename_i hf
      simp only [Option.some.injEq] at hc; subst hc
      simp only [astep, Option.some.injEq, Prod.mk.injEq] at hst
      obtain ⟨rfl, rfl⟩ := hst
      have he : first.map a.eval = #[] := by
        have : first = #[] := Array.eq_empty_of_size_eq_zero hf
        subst this; simp
      simp only [he]
      exact (give_clo h hγ).does
    · cases hc
  -- call
  · rename_i c hop
    rw [hop]
    have build : ∀ {b : Builtin} {ts : Array TypeId} {args : Array Value} (cs : Array Bool), (resolve a.eval c o.type).run P w = .ok { target := .builtin b ts o.type cs, args := args } w → ∀ {sem : Sem Value}, Gives P m w0 S0 Jo D st a w sem v hp' →
        (builtin b ts o.type cs args) = (do pure (.value (← sem))) → Does P m w0 S0 Jo D st a w (do let d ← resolve a.eval c o.type; invoke d.target d.args) v hp' := by
      intro b ts args cs hr sem hg he
      obtain ⟨nx, x, w', Φ', S', h1, h2, h3, h4⟩ := hg.does
      refine ⟨nx, x, w', Φ', S', ?_, h2, h3, h4⟩
      rw [Sem.run_bind, hr]
      simp only [Result.andThen_ok, invoke, he]
      exact h1
    split at hc
    -- len
    · rename_i hcal
      split at hc
      · rename_i t x ht hx
        have hargs : c.args = #[x] := by apply Array.ext'; simpa using hx
        have htys : c.argTypes[0]? = some t := ht
        obtain ⟨css, hres⟩ : ∃ css, (resolve a.eval c o.type).run P w = .ok { target := .builtin .len c.argTypes o.type css, args := #[a.eval x] } w := ⟨_, by simp only [resolve, hcal]; rw [show c.args.map a.eval = #[a.eval x] by rw [hargs]; simp]; rfl⟩
        have hlen : ∀ y, Builtin.len_ c.argTypes o.type #[y] = Builtin.len_ #[t] o.type #[y] := by
          intro y
          simp only [Builtin.len_, htys]
          rfl
        have gx := g x
        split at hc
        · rename_i hu
          simp only [Option.some.injEq] at hc; subst hc
          simp only [astep] at hst
          split at hst
          · rename_i s' hx'
            simp only [Option.some.injEq, Prod.mk.injEq] at hst
            obtain ⟨rfl, rfl⟩ := hst
            rw [hx'] at gx
            refine build _ hres ((give_len (ty := o.type) h).2.2 _ hu gx) ?_
            simp only [builtin, hlen]
          · cases hst
        · rename_i e hu
          simp only [Option.some.injEq] at hc; subst hc
          simp only [astep] at hst
          split at hst
          · rename_i k' es full hx'
            simp only [Option.some.injEq, Prod.mk.injEq] at hst
            obtain ⟨rfl, rfl⟩ := hst
            rw [hx'] at gx
            refine build _ hres ((give_len (ty := o.type) h).1 _ _ _ _ hu gx) ?_
            simp only [builtin, hlen]
          · rename_i s' ver o' n k' hx'
            simp only [Option.some.injEq, Prod.mk.injEq] at hst
            obtain ⟨rfl, rfl⟩ := hst
            rw [hx'] at gx
            refine build _ hres ((give_len (ty := o.type) h).2.1 _ _ _ _ _ _ hu gx) ?_
            simp only [builtin, hlen]
          · cases hst
        · rename_i n e hu
          simp only [Option.some.injEq] at hc; subst hc
          simp only [astep, Option.some.injEq, Prod.mk.injEq] at hst
          obtain ⟨rfl, rfl⟩ := hst
          refine build _ hres (gives_same h (x := .int .i64 n) (sem := Builtin.len_ #[t] o.type #[a.eval x]) ?_ (by rw [hγi]; exact .p _ _ (.int _ _))) ?_
          · simp [Builtin.len_, run_underlying hu, goInt]
          · simp only [builtin, hlen]
        · cases hc
      · cases hc
    -- min
    · rename_i hcal
      split at hc
      · rename_i x y hx
        have hargs : c.args = #[x, y] := by apply Array.ext'; simpa using hx
        obtain ⟨css, hres⟩ : ∃ css, (resolve a.eval c o.type).run P w = .ok { target := .builtin .min c.argTypes o.type css, args := #[a.eval x, a.eval y] } w := ⟨_, by simp only [resolve, hcal]; rw [show c.args.map a.eval = #[a.eval x, a.eval y] by rw [hargs]; simp]; rfl⟩
        simp only [Option.some.injEq] at hc; subst hc
        simp only [astep] at hst
        split at hst
        · rename_i k n k' l hx' hy'
          simp only [Option.some.injEq, Prod.mk.injEq] at hst
          obtain ⟨rfl, rfl⟩ := hst
          have gx := g x
          have gy := g y
          rw [hx'] at gx
          rw [hy'] at gy
          refine build _ hres (give_mm (ts := c.argTypes) (ty := o.type) h gx gy).2 ?_
          simp only [builtin]
        · cases hst
      · cases hc
    -- max
    · rename_i hcal
      split at hc
      · rename_i x y hx
        have hargs : c.args = #[x, y] := by apply Array.ext'; simpa using hx
        obtain ⟨css, hres⟩ : ∃ css, (resolve a.eval c o.type).run P w = .ok { target := .builtin .max c.argTypes o.type css, args := #[a.eval x, a.eval y] } w := ⟨_, by simp only [resolve, hcal]; rw [show c.args.map a.eval = #[a.eval x, a.eval y] by rw [hargs]; simp]; rfl⟩
        simp only [Option.some.injEq] at hc; subst hc
        simp only [astep] at hst
        split at hst
        · rename_i k n k' l hx' hy'
          simp only [Option.some.injEq, Prod.mk.injEq] at hst
          obtain ⟨rfl, rfl⟩ := hst
          have gx := g x
          have gy := g y
          rw [hx'] at gx
          rw [hy'] at gy
          refine build _ hres (give_mm (ts := c.argTypes) (ty := o.type) h gx gy).1 ?_
          simp only [builtin]
        · cases hst
      · cases hc
    -- append
    · rename_i hcal
      split at hc
      · rename_i t t' x y htys hx
        have hargs : c.args = #[x, y] := by apply Array.ext'; simpa using hx
        split at hc
        · rename_i e e' hu hu'
          split at hc
          · rename_i i z hi hz
            split at hc
            · rename_i hcond
              obtain ⟨rfl, c2, c3, c4⟩ := hcond
              simp only [Option.some.injEq] at hc; subst hc
              have hty : c.argTypes = #[t', t'] := by apply Array.ext'; simpa using htys
              obtain ⟨css, hres⟩ : ∃ css, (resolve a.eval c o.type).run P w = .ok { target := .builtin .append #[t', t'] o.type css, args := #[a.eval x, a.eval y] } w := ⟨_, by simp only [resolve, hcal, hty]; rw [show c.args.map a.eval = #[a.eval x, a.eval y] by rw [hargs]; simp]; rfl⟩
              obtain ⟨i', u, hi', hu2, rfl, _⟩ := zero_run hz
              rw [hi] at hi'; injection hi' with hi'; subst hi'
              have hus : u.cells.size = i.size := by simpa using c4
              have gx := g x
              have gy := g y
              simp only [astep] at hst
              split at hst
              · cases hst
              · rename_i new hnew
                split at hst
                · rename_i k' hx'
                  split at hst
                  · rename_i b hb
                    split at hst
                    · rename_i hby
                      simp only [Option.some.injEq, Prod.mk.injEq] at hst
                      obtain ⟨rfl, rfl⟩ := hst
                      rw [hx'] at gx
                      refine build _ hres (give_app_lit (ty := o.type) h hu hi hu2 c3 hus hb gx gy hnew hby) ?_
                      simp only [builtin]
                    · cases hst
                  · cases hst
                · rename_i s' ver n k' hx'
                  split at hst
                  · rename_i b hb
                    split at hst
                    · rename_i hcond2
                      obtain ⟨rfl, d2, rfl, d4, d5⟩ := hcond2
                      simp only [Option.some.injEq, Prod.mk.injEq] at hst
                      obtain ⟨rfl, rfl⟩ := hst
                      rw [hx'] at gx
                      refine build _ hres (give_app_ref (ty := o.type) h hu hi hu2 c3 hus hb d2 gx d4 gy hnew d5) ?_
                      simp only [builtin]
                    · cases hst
                  · cases hst
                · cases hst
            · cases hc
          · cases hc
        · cases hc
      · cases hc
    · simp only [Option.some.injEq] at hc; subst hc
      simp only [badOp, astep, hγi] at hst
      cases hst
  · simp only [Option.some.injEq] at hc; subst hc
    simp only [badOp, astep, hγi] at hst
    cases hst
end
end Go.Mx
