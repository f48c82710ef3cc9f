/- An executable walk: what it answers, the function returns. -/
import Derived.Test.YtonjnpefnbnohaaMxV
namespace Go.Mx
open Go.RowKit

abbrev ECall := Nat → List Blk → FuncId → List V → Option (V × List Blk)
def CallOk (P : Program) (m : Nat) (call : ECall) : Prop := ∀ s hp f args v hp', call s hp f args = some (v, hp') → CallR P m s hp f args v hp'

section
variable (P : Program) (call : ECall)

def evOp (st : St) : AI → Option (V × List Blk)
  | .op o => astep st.hp st.get o
  | .call s f args => call s st.hp f (args.map st.get)
  | .callv s x args => match st.get x with
    | .clo f caps => if callable P f = true then call s st.hp f (args.map st.get ++ caps) else none
    | .p (.fn f caps) => if callable P f = true then call s st.hp f (args.map st.get ++ caps.map .ipt) else none
    | _ => none

def evTouch (st : St) : AI → List Nat × List Nat
  | .op o => (touch st.get o, wrs st.get o)
  | .call s _ args => ((args.map st.get).flatMap slots ++ [s], wrC st.hp (args.map st.get) s)
  | .callv s x args => match st.get x with
    | .clo _ caps => ((args.map st.get ++ caps).flatMap slots ++ [s], wrC st.hp (args.map st.get ++ caps) s)
    | .p (.fn _ caps) => ((args.map st.get ++ caps.map V.ipt).flatMap slots ++ [s], wrC st.hp (args.map st.get ++ caps.map V.ipt) s)
    | _ => ([], [])

def evRun : List AIns → St → Option St
  | [], st => some st
  | i :: r, st => match i.guard with
    | none => match evOp P call st i.op with
      | some (v, hp) => evRun r (St.put ⟨st.ts, hp⟩ i.dst v)
      | none => none
    | some (some g, want) => match st.get (.t g) with
      | .p (.bool b) => if b = want then match evOp P call st i.op with
          | some (v, hp) => evRun r (St.put ⟨st.ts, hp⟩ i.dst v)
          | none => none
        else evRun r (st.put i.dst .no)
      | .no => evRun r (st.put i.dst .no)
      | _ => none
    | some (none, _) => none

def evRunD (pairs : List (Nat × Nat)) : List AIns → St → List (List Nat × List Nat) → Option St
  | [], st, F => if okF F pairs = true then some st else none
  | i :: r, st, F => match i.guard with
    | none => match evOp P call st i.op with
      | some (v, hp) => evRunD pairs r (St.put ⟨st.ts, hp⟩ i.dst v) (F ++ [evTouch st i.op])
      | none => none
    | some (some g, want) => match st.get (.t g) with
      | .p (.bool b) => if b = want then match evOp P call st i.op with
          | some (v, hp) => evRunD pairs r (St.put ⟨st.ts, hp⟩ i.dst v) (F ++ [evTouch st i.op])
          | none => none
        else evRunD pairs r (st.put i.dst .no) (F ++ [([], [])])
      | .no => evRunD pairs r (st.put i.dst .no) (F ++ [([], [])])
      | _ => none
    | some (none, _) => none

def evFrz : List AIns → St → Option (List Nat)
  | [], _ => some []
  | i :: r, st =>
    let go : Option (List Nat) := match evOp P call st i.op with
      | some (v, hp) => match evFrz r (St.put ⟨st.ts, hp⟩ i.dst v) with
        | some l => some ((match i.op with
          | .op _ => []
          | _ => (evTouch st i.op).2.filter fun t => liveS st.hp t && !liveS hp t) ++ l)
        | none => none
      | none => none
    match i.guard with
    | none => go
    | some (some g, want) => match st.get (.t g) with
      | .p (.bool b) => if b = want then go else evFrz r (st.put i.dst .no)
      | .no => evFrz r (st.put i.dst .no)
      | _ => none
    | some (none, _) => none

def evLoop (body : St → Option (AEx × St)) : Nat → St → Option (AEx × St)
  | 0, _ => none
  | n + 1, st => match body st with
    | some (.normal, s) => evLoop body n s
    | r => r

def evCode (m n : Nat) : ACode → St → Option (AEx × St)
  | .skip, st => some (.normal, st)
  | .reg ops, st => match evRun P call ops st with
    | some s => some (.normal, s)
    | none => none
  | .regd ops pairs, st => match evRunD P call pairs ops st [] with
    | some s => some (.normal, s)
    | none => match evFrz P call ops st with
      | some fz => if (fz.all fun t => decide (m ≤ t)) = true then match evRunD P call pairs ops ⟨st.ts, frzAll st.hp fz⟩ [] with
        | some s => some (.normal, s)
        | none => none
        else none
      | none => none
  | .seq x y, st => match evCode m n x st with
    | some (.normal, s) => evCode m n y s
    | r => r
  | .cond c x y, st => match st.get c with
    | .p (.bool b) => match b with
      | true => evCode m n x st
      | false => evCode m n y st
    | _ => none
  | .block id x, st => match evCode m n x st with
    | some (.exit j, s) => if j = id then some (.normal, s) else some (.exit j, s)
    | r => r
  | .loop x, st => evLoop (evCode m n x) n st
  | .exit id, st => some (.exit id, st)
  | .ret, st => some (.ret, st)
end

section
variable {P : Program} {m : Nat}

theorem astep_mono {st : St} {i : AIns} {K K' : St → Prop} (hK : ∀ s, K s → K' s) (h : AStep P m st i K) : AStep P m st i K' := by
  unfold AStep at h ⊢
  split at h
  · obtain ⟨v, hp', h1, h2⟩ := h
    exact ⟨v, hp', h1, hK _ h2⟩
  · split at h
    · obtain ⟨h0, v, hp', h1, h2⟩ := h
      exact ⟨h0, v, hp', h1, hK _ h2⟩
    · obtain ⟨h0, v, hp', h1, h2⟩ := h
      exact ⟨h0, v, hp', h1, hK _ h2⟩
    · exact h
  · obtain ⟨v, hp', h1, h2⟩ := h
    exact ⟨v, hp', h1, hK _ h2⟩

theorem arun_mono {K K' : St → Prop} (hK : ∀ s, K s → K' s) : ∀ (l : List AIns) (st : St), ARun P m l st K → ARun P m l st K'
  | [], st, h => hK st h
  | i :: r, st, h => by
    simp only [ARun] at h ⊢
    split at h
    · exact astep_mono (fun s hs => arun_mono hK r s hs) h
    · split at h
      · split at h
        · rename_i e
          rw [if_pos e]
          exact astep_mono (fun s hs => arun_mono hK r s hs) h
        · rename_i e
          rw [if_neg e]
          exact arun_mono hK r _ h
      · exact arun_mono hK r _ h
      · exact h
    · exact h

theorem ado_mono {st : St} {i : AIns} {K K' : St → List Nat × List Nat → Prop} (hK : ∀ s f, K s f → K' s f) (h : ADo P m st i K) : ADo P m st i K' := by
  unfold ADo at h ⊢
  split at h
  · obtain ⟨v, hp', h1, h2⟩ := h
    exact ⟨v, hp', h1, hK _ _ h2⟩
  · split at h
    · obtain ⟨h0, v, hp', h1, h2⟩ := h
      exact ⟨h0, v, hp', h1, hK _ _ h2⟩
    · obtain ⟨h0, v, hp', h1, h2⟩ := h
      exact ⟨h0, v, hp', h1, hK _ _ h2⟩
    · exact h
  · obtain ⟨v, hp', h1, h2⟩ := h
    exact ⟨v, hp', h1, hK _ _ h2⟩

theorem arund_mono {pairs : List (Nat × Nat)} {K K' : St → Prop} (hK : ∀ s, K s → K' s) : ∀ (l : List AIns) (st : St) (F : List (List Nat × List Nat)), ARunD P m pairs l st F K → ARunD P m pairs l st F K'
  | [], st, F, h => ⟨h.1, hK st h.2⟩
  | i :: r, st, F, h => by
    simp only [ARunD] at h ⊢
    split at h
    · exact ado_mono (fun s f hs => arund_mono hK r s _ hs) h
    · split at h
      · split at h
        · rename_i e
          rw [if_pos e]
          exact ado_mono (fun s f hs => arund_mono hK r s _ hs) h
        · rename_i e
          rw [if_neg e]
          exact arund_mono hK r _ _ h
      · exact arund_mono hK r _ _ h
      · exact h
    · exact h

theorem awp_mono : ∀ (c : ACode) (Q Q' : AEx → St → Prop) (st : St), (∀ e s, Q e s → Q' e s) → AWp P m c Q st → AWp P m c Q' st := by
  intro c
  induction c with
  | skip => intro Q Q' st hQ h; exact hQ _ _ h
  | reg ops => intro Q Q' st hQ h; exact arun_mono (hQ .normal) ops st h
  | regd ops pairs => intro Q Q' st hQ h; obtain ⟨fz, h1, h2⟩ := h; exact ⟨fz, h1, arund_mono (hQ .normal) ops _ [] h2⟩
  | seq x y ihx ihy =>
    intro Q Q' st hQ h
    refine ihx _ _ st ?_ h
    intro e s he
    cases e with
    | normal => exact ihy Q Q' s hQ he
    | exit id => exact hQ _ _ he
    | ret => exact hQ _ _ he
  | cond o x y ihx ihy =>
    intro Q Q' st hQ h
    simp only [AWp] at h ⊢
    split at h
    · split at h
      · rename_i e; rw [if_pos e]; exact ihx Q Q' st hQ h
      · rename_i e; rw [if_neg e]; exact ihy Q Q' st hQ h
    · exact h
  | block id x ih =>
    intro Q Q' st hQ h
    refine ih _ _ st ?_ h
    intro e s he
    cases e with
    | normal => exact hQ _ _ he
    | exit j =>
      simp only [AEx.blk] at he ⊢
      split at he
      · rename_i e; rw [if_pos e]; exact hQ _ _ he
      · rename_i e; rw [if_neg e]; exact hQ _ _ he
    | ret => exact hQ _ _ he
  | loop x ih =>
    intro Q Q' st hQ h
    obtain ⟨I, μ, h0, hr⟩ := h
    refine ⟨I, μ, h0, fun s hs => ih _ _ s ?_ (hr s hs)⟩
    intro e s' he
    cases e with
    | normal => exact he
    | exit id => exact hQ _ _ he
    | ret => exact hQ _ _ he
  | exit id => intro Q Q' st hQ h; exact hQ _ _ h
  | ret => intro Q Q' st hQ h; exact hQ _ _ h

def Unr (P : Program) (m : Nat) (x : ACode) (Q : AEx → St → Prop) : Nat → St → Prop
  | 0, _ => False
  | n + 1, st => AWp P m x (AEx.seq (Unr P m x Q n) Q) st

theorem m_loop_unr {x : ACode} {Q : AEx → St → Prop} {st : St} (n : Nat) (h : Unr P m x Q n st) : AWp P m (.loop x) Q st := by
  refine ⟨fun s => ∃ n, Unr P m x Q n s, fun s => leastOf (fun n => Unr P m x Q n s), ⟨st, fun _ _ _ _ Φ S _ _ h => ⟨Φ, S, h⟩, n, h⟩, ?_⟩
  intro s hs
  obtain ⟨h1, h2⟩ := leastOf_spec hs
  cases hk : leastOf (fun n => Unr P m x Q n s) with
  | zero => rw [hk] at h1; exact h1.elim
  | succ k =>
    rw [hk] at h1
    refine awp_mono x _ _ s ?_ h1
    intro e s' he
    cases e with
    | normal =>
      refine ⟨s', fun _ _ _ _ Φ S _ _ h => ⟨Φ, S, h⟩, ⟨k, he⟩, ?_⟩
      have := (leastOf_spec (p := fun n => Unr P m x Q n s') ⟨k, he⟩).2 k he
      show leastOf (fun n => Unr P m x Q n s') < leastOf (fun n => Unr P m x Q n s)
      omega
    | exit id => exact he
    | ret => exact he

theorem ev_step {call : ECall} (hc : CallOk P m call) {st : St} {i : AIns} {v : V} {hp : List Blk} (h : evOp P call st i.op = some (v, hp)) {K : St → Prop} (hK : K (St.put ⟨st.ts, hp⟩ i.dst v)) : AStep P m st i K := by
  unfold evOp at h
  unfold AStep
  split at h
  · rename_i o ho
    rw [ho]; exact ⟨v, hp, h, hK⟩
  · rename_i s f args ho
    rw [ho]; exact ⟨v, hp, hc _ _ _ _ _ _ h, hK⟩
  · rename_i s x args ho
    rw [ho]
    dsimp only
    split at h
    · rename_i f caps hx
      rw [hx]
      split at h
      · rename_i hcl; exact ⟨hcl, v, hp, hc _ _ _ _ _ _ h, hK⟩
      · cases h
    · rename_i f caps hx
      rw [hx]
      split at h
      · rename_i hcl; exact ⟨hcl, v, hp, hc _ _ _ _ _ _ h, hK⟩
      · cases h
    · cases h

theorem ev_do {call : ECall} (hc : CallOk P m call) {st : St} {i : AIns} {v : V} {hp : List Blk} (h : evOp P call st i.op = some (v, hp)) {K : St → List Nat × List Nat → Prop} (hK : K (St.put ⟨st.ts, hp⟩ i.dst v) (evTouch st i.op)) : ADo P m st i K := by
  unfold evOp at h
  unfold ADo
  unfold evTouch at hK
  split at h
  · rename_i o ho
    rw [ho] at hK ⊢; exact ⟨v, hp, h, hK⟩
  · rename_i s f args ho
    rw [ho] at hK ⊢; exact ⟨v, hp, hc _ _ _ _ _ _ h, hK⟩
  · rename_i s x args ho
    rw [ho] at hK ⊢
    dsimp only at hK ⊢
    split at h
    · rename_i f caps hx
      rw [hx] at hK ⊢
      split at h
      · rename_i hcl; exact ⟨hcl, v, hp, hc _ _ _ _ _ _ h, hK⟩
      · cases h
    · rename_i f caps hx
      rw [hx] at hK ⊢
      split at h
      · rename_i hcl; exact ⟨hcl, v, hp, hc _ _ _ _ _ _ h, hK⟩
      · cases h
    · cases h

theorem ev_run {call : ECall} (hc : CallOk P m call) {K : St → Prop} {st' : St} (hK : K st') : ∀ (l : List AIns) (st : St), evRun P call l st = some st' → ARun P m l st K
  | [], st, h => by simp only [evRun, Option.some.injEq] at h; subst h; exact hK
  | i :: r, st, h => by
    simp only [evRun] at h
    simp only [ARun]
    split at h
    · rename_i hg
      rw [hg]
      dsimp only
      split at h
      · rename_i v hp hv; exact ev_step hc hv (ev_run hc hK r _ h)
      · cases h
    · rename_i g want hg
      split at h
      · rename_i b hb
        split at h
        · rename_i e
          split at h
          · rename_i v hp hv
            rw [hg]; dsimp only; rw [hb]; dsimp only
            rw [if_pos e]
            exact ev_step hc hv (ev_run hc hK r _ h)
          · cases h
        · rename_i e
          rw [hg]; dsimp only; rw [hb]; dsimp only
          rw [if_neg e]
          exact ev_run hc hK r _ h
      · rename_i hb
        rw [hg]; dsimp only; rw [hb]; dsimp only
        exact ev_run hc hK r _ h
      · cases h
    · cases h

theorem ev_runD {call : ECall} (hc : CallOk P m call) {pairs : List (Nat × Nat)} {K : St → Prop} {st' : St} (hK : K st') : ∀ (l : List AIns) (st : St) (F : List (List Nat × List Nat)), evRunD P call pairs l st F = some st' → ARunD P m pairs l st F K
  | [], st, F, h => by
    simp only [evRunD] at h
    split at h
    · rename_i hF; simp only [Option.some.injEq] at h; subst h; exact ⟨hF, hK⟩
    · cases h
  | i :: r, st, F, h => by
    simp only [evRunD] at h
    simp only [ARunD]
    split at h
    · rename_i hg
      rw [hg]
      dsimp only
      split at h
      · rename_i v hp hv; exact ev_do hc hv (ev_runD hc hK r _ _ h)
      · cases h
    · rename_i g want hg
      split at h
      · rename_i b hb
        split at h
        · rename_i e
          split at h
          · rename_i v hp hv
            rw [hg]; dsimp only; rw [hb]; dsimp only
            rw [if_pos e]
            exact ev_do hc hv (ev_runD hc hK r _ _ h)
          · cases h
        · rename_i e
          rw [hg]; dsimp only; rw [hb]; dsimp only
          rw [if_neg e]
          exact ev_runD hc hK r _ _ h
      · rename_i hb
        rw [hg]; dsimp only; rw [hb]; dsimp only
        exact ev_runD hc hK r _ _ h
      · cases h
    · cases h

theorem ev_code {call : ECall} (hc : CallOk P m call) {n : Nat} : ∀ (c : ACode) (st : St) (e : AEx) (st' : St) (Q : AEx → St → Prop), evCode P call m n c st = some (e, st') → Q e st' → AWp P m c Q st := by
  intro c
  induction c with
  | skip => intro st e st' Q h hQ; simp only [evCode, Option.some.injEq, Prod.mk.injEq] at h; obtain ⟨rfl, rfl⟩ := h; exact hQ
  | reg ops =>
    intro st e st' Q h hQ
    simp only [evCode] at h
    split at h
    · rename_i s hs
      simp only [Option.some.injEq, Prod.mk.injEq] at h; obtain ⟨rfl, rfl⟩ := h
      exact ev_run hc hQ ops st hs
    · cases h
  | regd ops pairs =>
    intro st e st' Q h hQ
    simp only [evCode] at h
    split at h
    · rename_i s hs
      simp only [Option.some.injEq, Prod.mk.injEq] at h; obtain ⟨rfl, rfl⟩ := h
      exact ⟨[], by simp, ev_runD hc hQ ops st [] hs⟩
    · split at h
      · rename_i fz hfz
        split at h
        · rename_i hm
          split at h
          · rename_i s hs
            simp only [Option.some.injEq, Prod.mk.injEq] at h; obtain ⟨rfl, rfl⟩ := h
            refine ⟨fz, fun t ht => ?_, ev_runD hc hQ ops _ [] hs⟩
            rw [List.all_eq_true] at hm
            simpa using hm t ht
          · cases h
        · cases h
      · cases h
  | seq x y ihx ihy =>
    intro st e st' Q h hQ
    simp only [evCode] at h
    split at h
    · rename_i s hs
      exact ihx st .normal s _ hs (ihy s e st' Q h hQ)
    · rename_i hne
      cases e with
      | normal => exact absurd h (hne st')
      | exit id => exact ihx st _ st' _ h hQ
      | ret => exact ihx st _ st' _ h hQ
  | cond o x y ihx ihy =>
    intro st e st' Q h hQ
    simp only [evCode] at h
    simp only [AWp]
    split at h
    · rename_i b hb
      split at h
      · rw [hb]; exact ihx st e st' Q h hQ
      · rw [hb]; exact ihy st e st' Q h hQ
    · cases h
  | block id x ih =>
    intro st e st' Q h hQ
    simp only [evCode] at h
    split at h
    · rename_i j s hs
      refine ih st _ s _ hs ?_
      simp only [AEx.blk]
      split at h
      · rename_i e'
        simp only [Option.some.injEq, Prod.mk.injEq] at h; obtain ⟨rfl, rfl⟩ := h
        rw [if_pos e']; exact hQ
      · rename_i e'
        simp only [Option.some.injEq, Prod.mk.injEq] at h; obtain ⟨rfl, rfl⟩ := h
        rw [if_neg e']; exact hQ
    · rename_i hne
      refine ih st e st' _ h ?_
      cases e with
      | normal => exact hQ
      | exit j => exact absurd h (hne j st')
      | ret => exact hQ
  | loop x ih =>
    intro st e st' Q h hQ
    have key : ∀ k st, evLoop (evCode P call m n x) k st = some (e, st') → Unr P m x Q k st := by
      intro k
      induction k with
      | zero => intro st h; simp [evLoop] at h
      | succ k ihk =>
        intro st h
        simp only [evLoop] at h
        split at h
        · rename_i s hs
          exact ih st .normal s _ hs (ihk s h)
        · rename_i hne
          refine ih st e st' _ h ?_
          cases e with
          | normal => exact absurd h (hne st')
          | exit j => exact hQ
          | ret => exact hQ
    exact m_loop_unr n (key n st h)
  | exit id => intro st e st' Q h hQ; simp only [evCode, Option.some.injEq, Prod.mk.injEq] at h; obtain ⟨rfl, rfl⟩ := h; exact hQ
  | ret => intro st e st' Q h hQ; simp only [evCode, Option.some.injEq, Prod.mk.injEq] at h; obtain ⟨rfl, rfl⟩ := h; exact hQ
end

def ioSlot (hp : List Blk) : List V → Option (Nat × Blk)
  | [] => none
  | .ptr t ver _ :: r => match hp[t]? with
    | some b => if b.ver = ver ∧ b.st.isLive = true ∧ 0 < b.cs.length then some (t, b) else ioSlot hp r
    | none => ioSlot hp r
  | _ :: r => ioSlot hp r

def evCall (m : Nat) (F : FuncId → List V → Option V) (M : FuncId → Option (List V → List Pv → Option (V × List Pv))) : ECall := fun _ hp f args =>
  match M f with
  | some g => match ioSlot hp args with
    | some (u, b) => match allP b.cs, optAll (ioV u b.ver hp) args with
      | some ps, some as => if ((args.flatMap (ioS u b.ver)).all fun t => decide (m ≤ t) && t != u) = true ∧ u ∈ args.flatMap slots then match g as ps with
        | some (r, ps') => some (r, (frzAll hp (args.flatMap (ioS u b.ver))).set u ⟨b.ver, .live, ps'.map .p⟩)
        | none => none
        else none
      | _, _ => none
    | none => none
  | none => match optAll (pur hp) args with
    | some as => if ((args.flatMap slots).all fun t => decide (m ≤ t)) = true then match F f as with
      | some r => some (r, frzAll hp (args.flatMap slots))
      | none => none
      else none
    | none => none

theorem ioSlot_get {hp : List Blk} {u : Nat} {b : Blk} : ∀ (l : List V), ioSlot hp l = some (u, b) → hp[u]? = some b ∧ b.st = .live ∧ 0 < b.cs.length
  | [], h => by cases h
  | x :: r, h => by
    cases x with
    | ptr t ver o =>
      simp only [ioSlot] at h
      split at h
      · rename_i b' hb
        split at h
        · rename_i hc
          simp only [Option.some.injEq, Prod.mk.injEq] at h
          obtain ⟨rfl, rfl⟩ := h
          refine ⟨hb, ?_, hc.2.2⟩
          cases hs : b'.st <;> simp_all [BSt.isLive]
        · exact ioSlot_get r h
      · exact ioSlot_get r h
    | _ => exact ioSlot_get r (by simpa [ioSlot] using h)

theorem evCall_ok {P : Program} {m : Nat} {F : FuncId → List V → Option V} {M : FuncId → Option (List V → List Pv → Option (V × List Pv))} (hF : ∀ f as r, F f as = some r → Ret P f as r) (hM : ∀ f g as ps r ps', M f = some g → g as ps = some (r, ps') → RetM P f as ps r ps') : CallOk P m (evCall m F M) := by
  intro s hp f args v hp' h
  unfold evCall at h
  split at h
  · rename_i g hg
    split at h
    · rename_i u b hu
      split at h
      · rename_i ps as hps has
        split at h
        · rename_i hc
          split at h
          · rename_i r ps' hr
            simp only [Option.some.injEq, Prod.mk.injEq] at h
            obtain ⟨rfl, rfl⟩ := h
            obtain ⟨k1, k2, k3⟩ := ioSlot_get args hu
            exact .io as _ u b ps ps' hc.2 k1 k2 k3 hps has hc.1 (hM f g as ps _ ps' hg hr)
          · cases h
        · cases h
      · cases h
    · cases h
  · split at h
    · rename_i as has
      split at h
      · rename_i hc
        split at h
        · rename_i r hr
          simp only [Option.some.injEq, Prod.mk.injEq] at h
          obtain ⟨rfl, rfl⟩ := h
          exact .pure as _ has hc (hF f as _ hr)
        · cases h
      · cases h
    · cases h

abbrev Tab := List (FuncId × Bool × AFn)
def Tab.ok (P : Program) (T : Tab) : Prop := ∀ x ∈ T, (bif x.2.1 then cFnM P x.1 else cFn P x.1) = some x.2.2
theorem Tab.ok_nil {P : Program} : Tab.ok P [] := fun _ h => by cases h
theorem Tab.ok_cons {P : Program} {f : FuncId} {b : Bool} {F : AFn} {T : Tab} (h : (bif b then cFnM P f else cFn P f) = some F) (hT : T.ok P) : Tab.ok P ((f, b, F) :: T) := fun x hx => by
  rcases List.mem_cons.1 hx with rfl | hx
  · exact h
  · exact hT x hx
def Tab.find (f : FuncId) : Tab → Option (Bool × AFn)
  | [] => none
  | x :: r => match decide (x.1 = f) with
    | true => some x.2
    | false => find f r

def finR (F : AFn) (s : St) : Option V := match resV s F.res with
  | some v => purR s.hp v
  | none => none
def finM (F : AFn) (s : St) : Option (V × List Pv) := match resV s F.res, s.hp[0]? with
  | some v, some b => if ((slotsR v).all fun t => decide (1 ≤ t)) = true ∧ b.ver = 0 ∧ b.st.isLive = true then match purR s.hp v, allP b.cs with
      | some r, some ps => some (r, ps)
      | _, _ => none
    else none
  | _, _ => none

def evBoth (P : Program) (T : Tab) (n : Nat) : Nat → (FuncId → List V → Option V) × (FuncId → Option (List V → List Pv → Option (V × List Pv)))
  | 0 => (fun _ _ => none, fun _ => none)
  | d + 1 =>
    (fun f args => match T.find f with
      | some (false, F) => match evCode P (evCall 0 (evBoth P T n d).1 (evBoth P T n d).2) 0 n F.code (initSt F args) with
        | some (.normal, s) => finR F s
        | some (.ret, s) => finR F s
        | _ => none
      | _ => none,
     fun f => match T.find f with
      | some (true, F) => some fun args ps => match evCode P (evCall 1 (evBoth P T n d).1 (evBoth P T n d).2) 1 n F.code (initStM F args ps) with
        | some (.normal, s) => finM F s
        | some (.ret, s) => finM F s
        | _ => none
      | _ => none)

theorem Tab.find_ok {P : Program} {f : FuncId} {y : Bool × AFn} : ∀ {T : Tab}, T.ok P → T.find f = some y → (bif y.1 then cFnM P f else cFn P f) = some y.2
  | [], _, h => by cases h
  | x :: r, hT, h => by
    simp only [Tab.find] at h
    split at h
    · rename_i e
      have e' : x.1 = f := of_decide_eq_true e
      simp only [Option.some.injEq] at h; subst h
      rw [← e']; exact hT x (by simp)
    · exact Tab.find_ok (fun z hz => hT z (by simp [hz])) h

theorem evBoth_ok {P : Program} {T : Tab} (hT : T.ok P) {n : Nat} : ∀ d, (∀ f as r, (evBoth P T n d).1 f as = some r → Ret P f as r) ∧ (∀ f g as ps r ps', (evBoth P T n d).2 f = some g → g as ps = some (r, ps') → RetM P f as ps r ps')
  | 0 => ⟨fun f as r h => by simp [evBoth] at h, fun f g as ps r ps' h => by simp [evBoth] at h⟩
  | d + 1 => by
    obtain ⟨h1, h2⟩ := evBoth_ok hT (n := n) d
    refine ⟨fun f as r h => ?_, fun f g as ps r ps' h hg => ?_⟩
    · simp only [evBoth] at h
      split at h
      · rename_i F hF
        have hc := Tab.find_ok hT hF
        simp only [cond_false] at hc
        have fin : ∀ s, finR F s = some r → ∃ v, resV s F.res = some v ∧ purR s.hp v = some r := by
          intro s hs
          unfold finR at hs
          split at hs
          · rename_i v hv; exact ⟨v, hv, hs⟩
          · cases hs
        split at h
        · rename_i s hs
          exact ret_of hc (ev_code (evCall_ok h1 h2) _ _ _ _ _ hs (fin s h))
        · rename_i s hs
          exact ret_of hc (ev_code (evCall_ok h1 h2) _ _ _ _ _ hs (fin s h))
        · cases h
      · cases h
    · simp only [evBoth] at h
      split at h
      · rename_i F hF
        simp only [Option.some.injEq] at h; subst h
        dsimp only at hg
        have hc := Tab.find_ok hT hF
        simp only [cond_true] at hc
        have fin : ∀ s, finM F s = some (r, ps') → (∃ v, resV s F.res = some v ∧ purR s.hp v = some r ∧ ((slotsR v).all fun t => decide (1 ≤ t)) = true) ∧ s.hp[0]? = some ⟨0, .live, ps'.map .p⟩ := by
          intro s hs
          unfold finM at hs
          split at hs
          · rename_i v b hv hb
            split at hs
            · rename_i hcond
              obtain ⟨c1, c2, c3⟩ := hcond
              split at hs
              · rename_i r' ps'' hr hps
                simp only [Option.some.injEq, Prod.mk.injEq] at hs
                obtain ⟨rfl, rfl⟩ := hs
                refine ⟨⟨v, hv, hr, c1⟩, ?_⟩
                rw [hb]
                obtain ⟨bv, bs, bc⟩ := b
                simp only at c2 c3 hps
                have hm := allP_map hps
                have hbs : bs = .live := by cases bs <;> simp_all [BSt.isLive]
                simp only [c2, hbs, hm]
              · cases hs
            · cases hs
          · cases hs
        split at hg
        · rename_i s hs
          exact retm_of hc (ev_code (evCall_ok h1 h2) _ _ _ _ _ hs (fin s hg))
        · rename_i s hs
          exact retm_of hc (ev_code (evCall_ok h1 h2) _ _ _ _ _ hs (fin s hg))
        · cases hg
      · cases h

theorem ret_ev {P : Program} {T : Tab} (hT : T.ok P) {n d : Nat} {f : FuncId} {as : List V} {r : V} (h : (evBoth P T n d).1 f as = some r) : Ret P f as r := (evBoth_ok hT d).1 f as r h
end Go.Mx
