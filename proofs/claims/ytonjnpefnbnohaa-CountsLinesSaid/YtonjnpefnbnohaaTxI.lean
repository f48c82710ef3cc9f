/- Regions. -/
import Derived.Test.YtonjnpefnbnohaaTxH
namespace Go.Mx

structure Cx where
  nt : Nat
  ns : Nat
  m : Nat
  A : Nat → Ty
  C : Cons

def conj : List Prop → Prop → Prop
  | [], k => k
  | p :: r, k => p ∧ conj r k
theorem conj_iff {ps : List Prop} {k : Prop} : conj ps k ↔ (∀ p ∈ ps, p) ∧ k := by
  induction ps with
  | nil => simp [conj]
  | cons p r ih => simp only [conj, ih, List.mem_cons, forall_eq_or_imp, and_assoc]

def notDead : TC → Bool
  | .dead => false
  | _ => true

def callT (X : Cx) (T : TSt) (f : FuncId) (args : List TV) : Option (List Prop × TV × List Nat) :=
  match idsEq (fnIds args) ioMark with
  | true => none
  | false => match findC f (fnIds args) X.C with
    | some c => match packPs T.c c.ps args with
      | some x => match (args.flatMap slotsT).all (fun s => Nat.ble X.m s && notDead (T.c s)) with
        | true => some (c.pre x, tvR c.rs (c.fn x), args.flatMap slotsT)
        | false => none
      | none => none
    | none => none

def callM (X : Cx) (T : TSt) (f : FuncId) (args : List TV) : Option (List Prop × TV × TSt) :=
  match args with
  | [.ptr s 0 []] => match findC f ioMark X.C with
    | some ⟨[.ptr t], [.one r, .agg t'], pre, fn⟩ => match T.c s with
      | .cells true cs => match Nat.blt 0 t.n && Nat.beq cs.length t.n, imp1 t cs with
        | true, some x => some (pre x, tvR [.one r] (fn x).1, writeT T s (.cells true (explode t' (fn x).2)))
        | _, _ => none
      | _ => none
    | _ => none
  | _ => none

def argsT (raw : Opd → TV) : AI → Option (FuncId × List TV)
  | .op _ => none
  | .call _ f args => some (f, args.map fun x => unopt (raw x))
  | .callv _ x args => match unopt (raw x) with
    | .clo f caps => some (f, (args.map fun x => unopt (raw x)) ++ caps)
    | .fn f caps => some (f, (args.map fun x => unopt (raw x)) ++ caps.map fun c => .ipt (explode c.1 c.2))
    | _ => none
def siteI : AI → Nat
  | .op _ => 0
  | .call s _ _ => s
  | .callv s _ _ => s

def touchT (raw : Opd → TV) : AOp → List Nat
  | .newz s _ | .box s _ | .bsl true s _ _ _ _ | .mk s _ _ _ _ => [s]
  | .ld1 x | .ldn _ x | .sla _ _ x _ _ | .st _ x _ => slotT1 (unopt (raw x))
  | .app s _ _ x y => s :: (slotT1 (unopt (raw x)) ++ slotT1 (unopt (raw y)))
  | _ => []

def tdoP (X : Cx) (raw : Opd → TV) (T : TSt) (op : AI) : Option (List Prop × TV) := match op with
  | .op o => tpure X.A T.c raw o
  | op => match argsT raw op with
    | some (f, args) => match callT X T f args with
      | some (ps, tv, ss) => match ss.all (fun s => !liveT T s) with
        | true => some (ps, tv)
        | false => none
      | none => none
    | none => none
def tdo (X : Cx) (raw : Opd → TV) (T : TSt) (op : AI) : Option (List Prop × TV × TSt) := match op with
  | .op o => match tpure X.A T.c raw o with
    | some (ps, tv) => some (ps, tv, T)
    | none => tstate X.ns X.A T raw o
  | op => match argsT raw op with
    | some (f, args) => match callM X T f args with
      | some r => some r
      | none => match callT X T f args with
        | some (ps, tv, ss) => some (ps, tv, frzT T ss)
        | none => none
    | none => none
def fpT (raw : Opd → TV) (T : TSt) (op : AI) : List Nat × List Nat := match op with
  | .op o => (touchT raw o, if isW o then touchT raw o else [])
  | op => match argsT raw op with
    | some (_, args) => (args.flatMap slotsT ++ [siteI op], (args.flatMap slotsT).filter (liveT T) ++ [siteI op])
    | none => ([], [])

def putT (T : TSt) (d : Option Nat) (v : TV) : TSt := match d with
  | some d => { T with ts := fun n => match Nat.beq n d with | true => v | false => T.ts n }
  | none => T
def dOk (nt : Nat) : Option Nat → Bool
  | some d => Nat.blt d nt
  | none => true

def effB (b w : Bool) (b2 want : Bool) : Bool := match w, want with
  | true, true => b && b2
  | false, true => !b && b2
  | true, false => !b || b2
  | false, false => b || b2
def guardT (want : Bool) : TV → Option Bool
  | .b b => some b
  | .opt _ b w (.b b2) => some (effB b w b2 want)
  | _ => none

def tins (X : Cx) (i : AIns) (T : TSt) (k : TSt → List Nat × List Nat → Prop) : Prop :=
  match dOk X.nt i.dst with
  | false => False
  | true => match i.guard with
    | none => match tdo X T.raw T i.op with
      | some (ps, tv, T') => conj ps (k (putT T' i.dst tv) (fpT T.raw T i.op))
      | none => False
    | some (some g, want) => match guardT want (T.ts g) with
      | some b => match tdoP X (fun x => rdG g want (T.raw x)) T i.op with
        | some (ps, tv) => conj ((rdGP g b want ((optsI i).map T.raw) ++ ps).map fun p => b = want → p) (k (putT T i.dst (.opt g b want tv)) (fpT (fun x => rdG g want (T.raw x)) T i.op))
        | none => match tdo X (fun x => rdG g want (T.raw x)) T i.op with
          | some (ps, tv, T') => (b = want → conj (rdGP g b want ((optsI i).map T.raw) ++ ps) (k (putT T' i.dst tv) (fpT (fun x => rdG g want (T.raw x)) T i.op))) ∧ (b = !want → k (putT T i.dst .no) ([], []))
          | none => (b = want → False) ∧ (b = !want → k (putT T i.dst .no) ([], []))
      | none => False
    | some (none, _) => False

def trun (X : Cx) : List AIns → TSt → (TSt → Prop) → Prop
  | [], T, k => k T
  | i :: r, T, k => tins X i T fun T' _ => trun X r T' k
def trunD (X : Cx) (pairs : List (Nat × Nat)) : List AIns → TSt → List (List Nat × List Nat) → (TSt → Prop) → Prop
  | [], T, F, k => match okF F pairs with
    | true => k T
    | false => False
  | i :: r, T, F, k => tins X i T fun T' fp => trunD X pairs r T' (F ++ [fp]) k

section
variable {E : Env} {P : Program} {X : Cx} {T : TSt} {st : St}

theorem tpure_congr {A : Nat → Ty} {look : Nat → TC} {raw raw2 : Opd → TV} {op : AOp} (h : ∀ x ∈ opdsO op, raw2 x = raw x) : tpure A look raw2 op = tpure A look raw op := by
  cases op
  case pick c x y =>
    simp only [opdsO, List.mem_cons, List.not_mem_nil, or_false, forall_eq_or_imp, forall_eq] at h
    cases c with
    | c => rfl
    | t g => simp only [tpure]; rw [h.1, h.2.1, h.2.2]
  case build z parts =>
    simp only [tpure]
    have : (parts.map fun p => (p.1, p.2.1, unopt (raw2 p.2.2))) = parts.map fun p => (p.1, p.2.1, unopt (raw p.2.2)) := by
      apply List.map_congr_left; intro p hp; rw [h p.2.2 (by simp only [opdsO, List.mem_map]; exact ⟨p, hp, rfl⟩)]
    rw [this]
  case bsl own s k n z parts =>
    cases own with
    | true => rfl
    | false =>
      simp only [tpure]
      have : (parts.map fun p => (p.1, p.2.1, unopt (raw2 p.2.2))) = parts.map fun p => (p.1, p.2.1, unopt (raw p.2.2)) := by
        apply List.map_congr_left; intro p hp; rw [h p.2.2 (by simp only [opdsO, List.mem_map]; exact ⟨p, hp, rfl⟩)]
      rw [this]
  case sl k x lo hi =>
    have e0 : raw2 x = raw x := h x (by simp [opdsO])
    have e1 : boundT (fun y => unopt (raw2 y)) lo = boundT (fun y => unopt (raw y)) lo := by
      cases lo with
      | none => rfl
      | some y => simp only [boundT]; rw [h y (by simp [opdsO])]
    have e2 : boundT (fun y => unopt (raw2 y)) hi = boundT (fun y => unopt (raw y)) hi := by
      cases hi with
      | none => rfl
      | some y => simp only [boundT]; rw [h y (by simp [opdsO])]
    simp only [tpure, e0, e1, e2]
  case sla k n x lo hi =>
    have e0 : raw2 x = raw x := h x (by simp [opdsO])
    have e1 : boundT (fun y => unopt (raw2 y)) lo = boundT (fun y => unopt (raw y)) lo := by
      cases lo with
      | none => rfl
      | some y => simp only [boundT]; rw [h y (by simp [opdsO])]
    have e2 : boundT (fun y => unopt (raw2 y)) hi = boundT (fun y => unopt (raw y)) hi := by
      cases hi with
      | none => rfl
      | some y => simp only [boundT]; rw [h y (by simp [opdsO])]
    simp only [tpure, e0, e1, e2]
  case clo f caps =>
    simp only [tpure]
    have : (caps.map fun c => unopt (raw2 c)) = caps.map fun c => unopt (raw c) := by
      apply List.map_congr_left; intro p hp; rw [h p hp]
    rw [this]
  case len b x =>
    have e0 : raw2 x = raw x := h x (by simp [opdsO])
    cases b <;> simp only [tpure, e0]
  all_goals
    simp only [opdsO, List.mem_cons, List.not_mem_nil, or_false, forall_eq_or_imp, forall_eq] at h
    first
    | rfl
    | (simp only [tpure]; rw [h]; done)
    | (simp only [tpure]; rw [h.1, h.2]; done)

theorem tstate_congr {ns : Nat} {A : Nat → Ty} {raw raw2 : Opd → TV} {op : AOp} (h : ∀ x ∈ opdsO op, raw2 x = raw x) : tstate ns A T raw2 op = tstate ns A T raw op := by
  cases op
  case bsl own s k n z parts =>
    cases own with
    | false => rfl
    | true =>
      simp only [tstate]
      have : (parts.map fun p => (p.1, p.2.1, unopt (raw2 p.2.2))) = parts.map fun p => (p.1, p.2.1, unopt (raw p.2.2)) := by
        apply List.map_congr_left; intro p hp; rw [h p.2.2 (by simp only [opdsO, List.mem_map]; exact ⟨p, hp, rfl⟩)]
      rw [this]
  all_goals
    first
    | rfl
    | (simp only [opdsO, List.mem_cons, List.not_mem_nil, or_false, forall_eq_or_imp, forall_eq] at h
       first
       | (simp only [tstate]; rw [h]; done)
       | (simp only [tstate]; rw [h.1, h.2]; done))

theorem argsT_congr {raw raw2 : Opd → TV} {i : AIns} (h : ∀ x ∈ optsI i, raw2 x = raw x) : argsT raw2 i.op = argsT raw i.op := by
  unfold optsI at h
  cases hop : i.op with
  | op o => rfl
  | call s f args =>
    rw [hop] at h
    have : (args.map fun x => unopt (raw2 x)) = args.map fun x => unopt (raw x) := by
      apply List.map_congr_left; intro p hp; rw [h p hp]
    simp only [argsT, this]
  | callv s x args =>
    rw [hop] at h
    have : (args.map fun x => unopt (raw2 x)) = args.map fun x => unopt (raw x) := by
      apply List.map_congr_left; intro p hp; rw [h p (by simp [hp])]
    simp only [argsT, this, h x (by simp)]

theorem tdo_congr {raw raw2 : Opd → TV} {i : AIns} (h : ∀ x ∈ optsI i, raw2 x = raw x) : tdo X raw2 T i.op = tdo X raw T i.op ∧ tdoP X raw2 T i.op = tdoP X raw T i.op ∧ fpT raw2 T i.op = fpT raw T i.op := by
  have ha := argsT_congr h
  unfold optsI at h
  cases hop : i.op with
  | op o =>
    rw [hop] at h
    refine ⟨by simp only [tdo, tpure_congr h, tstate_congr h], by simp only [tdoP, tpure_congr h], ?_⟩
    have : touchT raw2 o = touchT raw o := by
      cases o
      case bsl own s k n z parts => cases own <;> rfl
      case app s k b x y => simp only [touchT]; rw [h x (by simp [opdsO]), h y (by simp [opdsO])]
      all_goals
        first
        | rfl
        | (simp only [touchT]; rw [h _ (by simp [opdsO])]; done)
    simp only [fpT, this]
  | call s f args => rw [hop] at ha; exact ⟨by simp only [tdo, ha], by simp only [tdoP, ha], by simp only [fpT, ha]⟩
  | callv s x args => rw [hop] at ha; exact ⟨by simp only [tdo, ha], by simp only [tdoP, ha], by simp only [fpT, ha]⟩

def DoRes (P : Program) (m : Nat) (st : St) (op : AI) (v : V) (hp' : List Blk) : Prop := match op with
  | .op o => astep st.hp st.get o = some (v, hp')
  | .call s f args => CallR P m s st.hp f (args.map st.get) v hp'
  | .callv s x args => match st.get x with
    | .clo f caps => callable P f = true ∧ CallR P m s st.hp f (args.map st.get ++ caps) v hp'
    | .p (.fn f caps) => callable P f = true ∧ CallR P m s st.hp f (args.map st.get ++ caps.map .ipt) v hp'
    | _ => False

theorem astep_of {m : Nat} {i : AIns} {v : V} {hp' : List Blk} {K : St → Prop} (h : DoRes P m st i.op v hp') (hK : K (St.put ⟨st.ts, hp'⟩ i.dst v)) : AStep P m st i K := by
  unfold DoRes at h
  unfold AStep
  split at h
  · rename_i o ho; rw [ho]; exact ⟨v, hp', h, hK⟩
  · rename_i s f args ho; rw [ho]; exact ⟨v, hp', h, hK⟩
  · rename_i s x args ho
    rw [ho]; dsimp only
    split at h
    · rename_i f caps hx; rw [hx]; exact ⟨h.1, v, hp', h.2, hK⟩
    · rename_i f caps hx; rw [hx]; exact ⟨h.1, v, hp', h.2, hK⟩
    · exact h.elim
theorem ado_of {m : Nat} {i : AIns} {v : V} {hp' : List Blk} {K : St → List Nat × List Nat → Prop} (h : DoRes P m st i.op v hp') (hK : K (St.put ⟨st.ts, hp'⟩ i.dst v) (evTouch st i.op)) : ADo P m st i K := by
  unfold DoRes at h
  unfold ADo
  unfold evTouch at hK
  split at h
  · rename_i o ho; rw [ho] at hK ⊢; exact ⟨v, hp', h, hK⟩
  · rename_i s f args ho; rw [ho] at hK ⊢; exact ⟨v, hp', h, hK⟩
  · rename_i s x args ho
    rw [ho] at hK ⊢; dsimp only at hK ⊢
    split at h
    · rename_i f caps hx; rw [hx] at hK ⊢; exact ⟨h.1, v, hp', h.2, hK⟩
    · rename_i f caps hx; rw [hx] at hK ⊢; exact ⟨h.1, v, hp', h.2, hK⟩
    · exact h.elim

theorem pure_hp {A : Nat → Ty} {raw : Opd → TV} {g : Opd → V} {op : AOp} {r : List Prop × TV} (h : tpure A T.c raw op = some r) (hraw : ∀ x, TRel E (raw x) (g x)) : touch g op = touchT raw op := by
  have sl : ∀ x, unopt (raw x) ≠ .und → okT (unopt (raw x)) = true → slotC (g x) = slotT1 (unopt (raw x)) := fun x _ hk => okT_slot (unopt_rel (hraw x)) hk
  cases op
  case ld1 x =>
    simp only [touch, touchT]
    refine okT_slot (unopt_rel (hraw x)) ?_
    cases hx : unopt (raw x) <;> first | rfl | (simp only [tpure, hx, loadT] at h; cases h)
  case ldn n x =>
    simp only [touch, touchT]
    refine okT_slot (unopt_rel (hraw x)) ?_
    cases hx : unopt (raw x) <;> first | rfl | (simp only [tpure, hx, loadT] at h; cases h)
  case sla k n x lo hi =>
    simp only [touch, touchT]
    refine okT_slot (unopt_rel (hraw x)) ?_
    cases hx : unopt (raw x) <;> first | rfl | (simp only [tpure, hx] at h; cases h)
  case bsl own s k n z parts => cases own <;> rfl
  case st => simp [tpure] at h
  case app => simp [tpure] at h
  all_goals rfl

theorem state_hp {ns : Nat} {A : Nat → Ty} {raw : Opd → TV} {g : Opd → V} {op : AOp} {r : List Prop × TV × TSt} (h : tstate ns A T raw op = some r) (hraw : ∀ x, TRel E (raw x) (g x)) : touch g op = touchT raw op := by
  cases op
  case st n x v =>
    simp only [touch, touchT]
    refine okT_slot (unopt_rel (hraw x)) ?_
    simp only [tstate] at h
    split at h
    · split at h
      · cases hx : unopt (raw x) <;> first | rfl | (simp only [hx] at h; cases h)
      · cases h
    · cases h
  case app s k b x y =>
    simp only [touch, touchT]
    simp only [tstate] at h
    have hx : okT (unopt (raw x)) = true := by cases hx : unopt (raw x) <;> first | rfl | (simp only [hx] at h; cases h)
    have hy : okT (unopt (raw y)) = true := by
      split at h
      · split at h
        · split at h
          · rename_i l hl; exact implSl_okT hl
          · cases h
        · cases h
      · split at h
        · split at h
          · split at h
            · rename_i l hl; exact implSl_okT hl
            · cases h
          · cases h
        · cases h
      · cases h
    rw [okT_slot (unopt_rel (hraw x)) hx, okT_slot (unopt_rel (hraw y)) hy]
  case bsl own s k n z parts => cases own <;> rfl
  case ld1 => simp [tstate] at h
  case ldn => simp [tstate] at h
  case sla => simp [tstate] at h
  all_goals rfl

theorem args_lrel {raw : Opd → TV} {g : Opd → V} (hraw : ∀ x, TRel E (raw x) (g x)) (args : List Opd) : LRel E (args.map fun x => unopt (raw x)) (args.map g) := LRel.map fun x _ => unopt_rel (hraw x)

theorem argsT_rel {raw : Opd → TV} (hraw : ∀ x, TRel E (raw x) (st.get x)) {op : AI} {f : FuncId} {args : List TV} (h : argsT raw op = some (f, args)) :
    ∃ vs, LRel E args vs ∧ (∀ m v hp', callable P f = true → CallR P m (siteI op) st.hp f vs v hp' → DoRes P m st op v hp') ∧ evTouch st op = (vs.flatMap slots ++ [siteI op], wrC st.hp vs (siteI op)) := by
  cases op with
  | op o => cases h
  | call s f' as =>
    simp only [argsT, Option.some.injEq, Prod.mk.injEq] at h; obtain ⟨rfl, rfl⟩ := h
    exact ⟨_, args_lrel hraw as, fun m v hp' _ hc => hc, rfl⟩
  | callv s x as =>
    have hx := unopt_rel (hraw x)
    simp only [argsT] at h
    split at h
    · rename_i f' caps hxa
      rw [hxa] at hx
      obtain ⟨vs, he, hn, hr⟩ := hx.inv_clo
      simp only [Option.some.injEq, Prod.mk.injEq] at h; obtain ⟨rfl, rfl⟩ := h
      refine ⟨as.map st.get ++ vs, (args_lrel hraw as).append ⟨hn, hr⟩, fun m v hp' h1 hc => ?_, ?_⟩
      · simp only [DoRes, he]; exact ⟨h1, hc⟩
      · simp only [evTouch, he]; rfl
    · rename_i f' caps hxa
      rw [hxa] at hx
      obtain ⟨p, he, hle⟩ := hx.inv_fn
      simp only [Option.some.injEq, Prod.mk.injEq] at h; obtain ⟨rfl, rfl⟩ := h
      cases hle with
      | fn _ cap _ hn hl hh =>
        refine ⟨as.map st.get ++ cap.map .ipt, (args_lrel hraw as).append ⟨by simpa using hn.symm, fun i c v h1 h2 => ?_⟩, fun m v hp' h1 hc => ?_, ?_⟩
        · rw [List.getElem?_map] at h1 h2
          cases hc : caps[i]? with
          | none => simp [hc] at h1
          | some c' =>
            cases he' : cap[i]? with
            | none => simp [he'] at h2
            | some e =>
              simp only [hc, he', Option.map_some, Option.some.injEq] at h1 h2; subst h1 h2
              have hc2 : (caps.map fun c => c.1.enc c.2)[i]? = some (c'.1.enc c'.2) := by rw [List.getElem?_map, hc]; rfl
              have hlen := hl i e _ he' hc2
              refine .ipt _ _ (by rw [explode_len, ← Ty.enc_len c'.1 c'.2]; exact hlen) fun j d p hd hp => ?_
              have hj : j < (c'.1.enc c'.2).length := by
                rw [Ty.enc_len, ← explode_len c'.1 c'.2]; exact (List.getElem?_eq_some_iff.1 hd).1
              obtain ⟨q, hq⟩ : ∃ q, (c'.1.enc c'.2)[j]? = some q := ⟨_, List.getElem?_eq_getElem hj⟩
              have := congrArg (·[j]?) (explode_can c'.1 c'.2)
              simp only [List.getElem?_map, hd, hq, Option.map_some, Option.some.injEq] at this
              exact ⟨q, this, hh i e _ j p q he' hc2 hp hq⟩
        · simp only [DoRes, he]; exact ⟨h1, hc⟩
        · simp only [evTouch, he]; rfl
    · cases h

theorem callT_rel (hC : ConsOk P X.C) (h : Conc X.nt X.ns E T st) {f : FuncId} {args : List TV} {vs : List V} (hr : LRel E args vs) {ps : List Prop} {tv : TV} {ss : List Nat} (hc : callT X T f args = some (ps, tv, ss)) (hps : ∀ p ∈ ps, p) (s : Nat) :
    callable P f = true ∧ vs.flatMap slots = ss ∧ wrC st.hp vs s = ss.filter (liveT T) ++ [s] ∧ ss = args.flatMap slotsT ∧ ∃ v, CallR P X.m s st.hp f vs v (frzAll st.hp ss) ∧ TRel E tv v := by
  unfold callT at hc
  split at hc
  · cases hc
  rename_i hid
  split at hc
  · rename_i c hfc
    split at hc
    · rename_i x hx
      split at hc
      · rename_i hall
        simp only [Option.some.injEq, Prod.mk.injEq] at hc; obtain ⟨rfl, rfl, rfl⟩ := hc
        obtain ⟨h1, h2⟩ := (findC_any hC hfc).1 hid
        obtain ⟨as, g1, g2, g3⟩ := packPs_rel h hx hr
        rw [List.all_eq_true] at hall
        have hm : ∀ t ∈ args.flatMap slotsT, X.m ≤ t ∧ T.c t ≠ .dead := fun t ht => by
          have := hall t ht
          simp only [Bool.and_eq_true] at this
          exact ⟨Nat.le_of_ble_eq_true this.1, fun e => by rw [e] at this; exact absurd this.2 (by simp [notDead])⟩
        refine ⟨h1, g3, ?_, rfl, valR c.rs (c.fn x), ?_, tvR_rel _ _⟩
        · simp only [wrC, g3]
          congr 1
          apply List.filter_congr
          intro t ht
          exact live_rel h (hm t ht).2
        · have := CallR.pure (P := P) (m := X.m) (s := s) (hp := st.hp) (f := f) (args := vs) as (valR c.rs (c.fn x)) g1 (by
            rw [g3, List.all_eq_true]; intro t ht; simpa using (hm t ht).1) (ret_le g2 (h2 x hps))
          rw [g3] at this; exact this
      · cases hc
    · cases hc
  · cases hc

theorem retM_le {f : FuncId} {as : List V} {ps qs ps' : List Pv} {r : V} (h : LeL ps qs) (hr : RetM P f as qs r ps') : RetM P f as ps r ps' := fun w S vals c sz arr ty h1 h2 h3 h4 => by
  refine hr w S vals c sz arr ty h1 h2 (by rw [h.1]; exact h3) (fun i x' hi => ?_)
  obtain ⟨a, ha⟩ := get_of_len h.1 hi
  exact (h.2 i a x' ha hi).rel (h4 i a ha)
theorem callM_rel (hC : ConsOk P X.C) (h : Conc X.nt X.ns E T st) {f : FuncId} {args : List TV} {vs : List V} (hr : LRel E args vs) {ps : List Prop} {tv : TV} {T' : TSt} (hc : callM X T f args = some (ps, tv, T')) (hps : ∀ p ∈ ps, p) (s : Nat) :
    callable P f = true ∧ vs.flatMap slots = args.flatMap slotsT ∧ wrC st.hp vs s = (args.flatMap slotsT).filter (liveT T) ++ [s] ∧ ∃ v hp', CallR P X.m s st.hp f vs v hp' ∧ Conc X.nt X.ns E T' ⟨st.ts, hp'⟩ ∧ Hist E T E T' ∧ TRel E tv v := by
  unfold callM at hc
  split at hc
  · rename_i s0
    split at hc
    · rename_i t r t' pre fn hfc
      split at hc
      · rename_i cs hl
        split at hc
        · rename_i x hn hx
          simp only [Option.some.injEq, Prod.mk.injEq] at hc; obtain ⟨rfl, rfl, rfl⟩ := hc
          simp only [Bool.and_eq_true] at hn
          have hn2 := Nat.eq_of_beq_eq_true hn.2
          have hn1 : 0 < t.n := by
            have : 1 ≤ t.n := by simpa [Nat.blt] using hn.1
            exact this
          obtain ⟨h1, rfl, h2⟩ := (findC_any hC hfc).2 rfl
          obtain ⟨b, q1, q2, q3, q4, q5⟩ := cells_blk h hl
          obtain ⟨us, g1, g2, g3⟩ := imp1_rel hx q5
          -- the argument
          obtain ⟨v, rfl, hv⟩ : ∃ v, vs = [v] ∧ TRel E (.ptr s0 0 []) v := by
            match vs, hr.1 with
            | [v], _ => exact ⟨v, rfl, hr.2 0 _ v rfl rfl⟩
          obtain ⟨_, rfl⟩ := hv.inv_ptr
          have hoff : 0 + dsOff [] = 0 := rfl
          have hlive : b.st = .live := by rw [q4]; rfl
          refine ⟨h1, rfl, ?_, valR [.one r] (fn x).1, st.hp.set s0 ⟨b.ver, .live, (t'.enc (fn x).2).map .p⟩, ?_, ?_⟩
          · simp only [wrC]
            congr 1
            show (List.flatMap slots [V.ptr s0 (E.vr s0) (0 + dsOff [])]).filter _ = _
            apply List.filter_congr
            intro u hu
            have : u = s0 := by simpa [slots, slotC] using hu
            subst this
            exact live_rel h (by rw [hl]; exact fun e => by cases e)
          · have := CallR.io (P := P) (m := X.m) (s := s) (hp := st.hp) (f := f) (args := [V.ptr s0 (E.vr s0) (0 + dsOff [])]) [.ptr 0 0 0] (valR [.one r] (fn x).1) s0 b us (t'.enc (fn x).2)
              (by simp [slots, slotC]) q1 hlive (by rw [q5.1, hn2]; exact hn1) (by rw [g1]; exact allP_mapP us) (by simp [optAll, ioV, q2, hoff]) (by simp [ioS, q2]) (retM_le g2 (h2 x hps))
            simpa [ioS, q2, frzAll] using this
          · obtain ⟨c1, c2⟩ := write_conc (c := .cells true (explode t' (fn x).2)) (b' := ⟨b.ver, .live, (t'.enc (fn x).2).map .p⟩) h q1 ⟨q2, rfl, rfl, explode_lrel⟩
            exact ⟨c1, c2, tvR_rel _ _⟩
        · cases hc
      · cases hc
    · cases hc
  · cases hc

theorem tdo_sound (hC : ConsOk P X.C) (h : Conc X.nt X.ns E T st) {raw : Opd → TV} (hraw : ∀ x, TRel E (raw x) (st.get x)) {op : AI} {ps : List Prop} {tv : TV} {T' : TSt} (hd : tdo X raw T op = some (ps, tv, T')) (hps : ∀ p ∈ ps, p) :
    ∃ v hp' E', DoRes P X.m st op v hp' ∧ Conc X.nt X.ns E' T' ⟨st.ts, hp'⟩ ∧ Hist E T E' T' ∧ TRel E' tv v ∧ evTouch st op = fpT raw T op := by
  have viaCall : (match argsT raw op with
    | some (f, args) => match callM X T f args with
      | some r => some r
      | none => match callT X T f args with
        | some (ps, tv, ss) => some (ps, tv, frzT T ss)
        | none => none
    | none => none) = some (ps, tv, T') → fpT raw T op = (match argsT raw op with
    | some (_, args) => (args.flatMap slotsT ++ [siteI op], (args.flatMap slotsT).filter (liveT T) ++ [siteI op])
    | none => ([], [])) → ∃ v hp' E', DoRes P X.m st op v hp' ∧ Conc X.nt X.ns E' T' ⟨st.ts, hp'⟩ ∧ Hist E T E' T' ∧ TRel E' tv v ∧ evTouch st op = fpT raw T op := by
    intro hd hf
    split at hd
    · rename_i f args hargs
      split at hd
      · rename_i r hc
        simp only [Option.some.injEq] at hd; subst hd
        obtain ⟨vs, k1, k2, k3⟩ := argsT_rel (P := P) hraw hargs
        obtain ⟨g1, g2, g3, v, hp', g4, g5, g6, g7⟩ := callM_rel hC h k1 hc hps (siteI op)
        refine ⟨v, hp', E, k2 _ _ _ g1 g4, g5, g6, g7, ?_⟩
        rw [k3, hf, hargs, g2, g3]
      split at hd
      · rename_i ps' tv' ss hc
        simp only [Option.some.injEq, Prod.mk.injEq] at hd; obtain ⟨rfl, rfl, rfl⟩ := hd
        obtain ⟨vs, k1, k2, k3⟩ := argsT_rel (P := P) hraw hargs
        obtain ⟨g1, g2, g3, g4, v, g5, g6⟩ := callT_rel hC h k1 hc hps (siteI op)
        obtain ⟨c1, c2⟩ := frz_conc (ss := ss) h
        refine ⟨v, _, E, k2 _ _ _ g1 g5, c1, c2, g6, ?_⟩
        rw [k3, hf, hargs, g2, g3, g4]
      · cases hd
    · cases hd
  cases op with
  | op o =>
    simp only [tdo] at hd
    split at hd
    · rename_i ps' tv' hp
      simp only [Option.some.injEq, Prod.mk.injEq] at hd; obtain ⟨rfl, rfl, rfl⟩ := hd
      obtain ⟨v, h1, h2⟩ := tpure_sound h hraw hp hps
      have ht := pure_hp hp hraw
      exact ⟨v, st.hp, E, h1, h, .refl _ _, h2, by simp only [evTouch, fpT, wrs, ht]⟩
    · obtain ⟨v, hp', E', h1, h2, h3, h4⟩ := tstate_sound h hraw hd hps
      have ht := state_hp hd hraw
      exact ⟨v, hp', E', h1, h2, h3, h4, by simp only [evTouch, fpT, wrs, ht]⟩
  | call s f args => exact viaCall hd rfl
  | callv s x args => exact viaCall hd rfl

theorem tdoP_sound (hC : ConsOk P X.C) (h : Conc X.nt X.ns E T st) {raw : Opd → TV} (hraw : ∀ x, TRel E (raw x) (st.get x)) {op : AI} {ps : List Prop} {tv : TV} (hd : tdoP X raw T op = some (ps, tv)) (hps : ∀ p ∈ ps, p) :
    ∃ v hp', DoRes P X.m st op v hp' ∧ Conc X.nt X.ns E T ⟨st.ts, hp'⟩ ∧ TRel E tv v ∧ evTouch st op = fpT raw T op := by
  have viaCall : (match argsT raw op with
    | some (f, args) => match callT X T f args with
      | some (ps, tv, ss) => match ss.all (fun s => !liveT T s) with
        | true => some (ps, tv)
        | false => none
      | none => none
    | none => none) = some (ps, tv) → fpT raw T op = (match argsT raw op with
    | some (_, args) => (args.flatMap slotsT ++ [siteI op], (args.flatMap slotsT).filter (liveT T) ++ [siteI op])
    | none => ([], [])) → ∃ v hp', DoRes P X.m st op v hp' ∧ Conc X.nt X.ns E T ⟨st.ts, hp'⟩ ∧ TRel E tv v ∧ evTouch st op = fpT raw T op := by
    intro hd hf
    split at hd
    · rename_i f args hargs
      split at hd
      · rename_i ps' tv' ss hc
        split at hd
        · rename_i hall
          simp only [Option.some.injEq, Prod.mk.injEq] at hd; obtain ⟨rfl, rfl⟩ := hd
          obtain ⟨vs, k1, k2, k3⟩ := argsT_rel (P := P) hraw hargs
          obtain ⟨g1, g2, g3, g4, v, g5, g6⟩ := callT_rel hC h k1 hc hps (siteI op)
          have hT : frzT T ss = T := by
            rw [List.all_eq_true] at hall
            clear g5 g4 g3 g2 k3 hc
            induction ss with
            | nil => rfl
            | cons a r ih =>
              have ha := hall a (by simp)
              have e : frz1T T a = T := by
                simp only [liveT, Bool.not_eq_true'] at ha
                unfold frz1T
                split
                · rename_i cs hcs; rw [hcs] at ha; simp at ha
                · rename_i t l hcs; rw [hcs] at ha; simp at ha
                · rfl
              rw [frzT, e]
              exact ih (fun x hx => hall x (by simp [hx]))
          obtain ⟨c1, c2⟩ := frz_conc (ss := ss) h
          rw [hT] at c1
          exact ⟨v, _, k2 _ _ _ g1 g5, c1, g6, by rw [k3, hf, hargs, g2, g3, g4]⟩
        · cases hd
      · cases hd
    · cases hd
  cases op with
  | op o =>
    simp only [tdoP] at hd
    obtain ⟨v, h1, h2⟩ := tpure_sound h hraw hd hps
    have ht := pure_hp hd hraw
    exact ⟨v, st.hp, h1, h, h2, by simp only [evTouch, fpT, wrs, ht]⟩
  | call s f args => exact viaCall hd rfl
  | callv s x args => exact viaCall hd rfl

theorem put_conc (h : Conc X.nt X.ns E T st) {d : Option Nat} (hd : dOk X.nt d = true) {tv : TV} {v : V} (hv : TRel E tv v) : Conc X.nt X.ns E (putT T d tv) (st.put d v) := by
  cases d with
  | none => exact h
  | some d =>
    have hd : d < st.ts.length := by rw [h.lt]; exact Nat.ble_eq.mp hd
    refine ⟨by simp [St.put, h.lt], h.lh, fun n => ?_, h.c, h.v0⟩
    simp only [putT, St.put, St.get, List.getElem?_set]
    by_cases e : n = d
    · subst e
      rw [beq_self, if_pos rfl, if_pos hd]
      exact hv
    · rw [beq_ne e, if_neg (fun x => e x.symm)]
      exact h.ts n
theorem put_hist {d : Option Nat} {tv : TV} : Hist E T E (putT T d tv) := by
  cases d with
  | none => exact .refl _ _
  | some d => exact fun s => ⟨Nat.le_refl _, Nat.le_refl _, fun _ => ⟨rfl, rfl⟩, fun _ => rfl⟩

theorem put_get {d : Option Nat} {v : V} {hp : List Blk} {n : Nat} (h : d ≠ some n) : (St.put ⟨st.ts, hp⟩ d v).get (.t n) = st.get (.t n) := by
  cases d with
  | none => rfl
  | some d =>
    simp only [St.put, St.get, List.getElem?_set]
    rw [if_neg (fun e => h (by rw [e]))]

def FpLe (a b : List Nat × List Nat) : Prop := (∀ x ∈ a.1, x ∈ b.1) ∧ ∀ x ∈ a.2, x ∈ b.2

theorem rdG_rel {raw : Opd → TV} (hraw : ∀ x, TRel E (raw x) (st.get x)) {g : Nat} {b want : Bool} : ∀ {l : List Opd}, (∀ p ∈ rdGP g b want (l.map raw), p) → b = want → ∀ x ∈ l, TRel E (rdG g want (raw x)) (st.get x)
  | [], _, _, x, hx => by cases hx
  | y :: l, hp, hb, x, hx => by
    have hy := hraw y
    have split : (∀ p ∈ rdGP g b want (l.map raw), p) ∧ TRel E (rdG g want (raw y)) (st.get y) := by
      simp only [List.map_cons] at hp
      cases hr : raw y with
      | opt g' b' want' v =>
        rw [hr] at hp hy
        simp only [rdGP] at hp
        simp only [rdG]
        split at hp
        · rename_i hc
          rw [if_pos hc]
          refine ⟨fun p hp' => hp p (by simp [hp']), hy.inv_opt ?_⟩
          have : b' = b := hp _ (List.mem_cons_self ..)
          rw [this, hb, hc.2]
        · rename_i hc
          rw [if_neg hc]
          exact ⟨hp, hy⟩
      | _ => rw [hr] at hp hy; exact ⟨hp, hy⟩
    rcases List.mem_cons.1 hx with rfl | hx
    · exact split.2
    · exact rdG_rel hraw split.1 hb x hx

theorem guardT_rel {want : Bool} {x : TV} {v : V} {b : Bool} (hx : TRel E x v) (h : guardT want x = some b) : (v = .no ∨ ∃ c, v = .p (.bool c) ∧ (c = want ↔ b = want)) ∧ (v = .no → b ≠ want) := by
  unfold guardT at h
  split at h
  · simp only [Option.some.injEq] at h; subst h
    rw [hx.inv_b]
    exact ⟨.inr ⟨_, rfl, Iff.rfl⟩, fun e => by cases e⟩
  · rename_i g b' w b2
    simp only [Option.some.injEq] at h; subst h
    by_cases e : b' = w
    · have := hx.inv_opt e
      rw [this.inv_b]
      subst e
      refine ⟨.inr ⟨b2, rfl, ?_⟩, fun e => by cases e⟩
      cases b' <;> cases b2 <;> cases want <;> simp [effB]
    · rw [hx.inv_opt2 e]
      refine ⟨.inl rfl, fun _ => ?_⟩
      cases b' <;> cases w <;> cases b2 <;> cases want <;> simp_all [effB]
  · cases h

theorem tins_sound (hC : ConsOk P X.C) {i : AIns} (h : Conc X.nt X.ns E T st) {k : TSt → List Nat × List Nat → Prop} (hk : tins X i T k) :
    (i.guard = none ∧ ∃ v hp' E' T' fp, DoRes P X.m st i.op v hp' ∧ evTouch st i.op = fp ∧ Conc X.nt X.ns E' T' (St.put ⟨st.ts, hp'⟩ i.dst v) ∧ Hist E T E' T' ∧ k T' fp) ∨
    ∃ g want b, i.guard = some (some g, want) ∧ (st.get (.t g) = .no ∨ ∃ c, st.get (.t g) = .p (.bool c) ∧ (c = want ↔ b = want)) ∧ (st.get (.t g) = .no → b ≠ want) ∧
      (b = want → ∃ v hp' E' T' fp, DoRes P X.m st i.op v hp' ∧ evTouch st i.op = fp ∧ Conc X.nt X.ns E' T' (St.put ⟨st.ts, hp'⟩ i.dst v) ∧ Hist E T E' T' ∧ k T' fp) ∧
      (b ≠ want → ∃ E' T' fp, Conc X.nt X.ns E' T' (st.put i.dst .no) ∧ Hist E T E' T' ∧ k T' fp) := by
  classical
  have hraw := raw_rel h
  unfold tins at hk
  split at hk
  · exact hk.elim
  · rename_i hdst
    split at hk
    · rename_i hg
      left
      refine ⟨hg, ?_⟩
      split at hk
      · rename_i ps tv T' hd
        obtain ⟨hps, hk⟩ := conj_iff.1 hk
        obtain ⟨v, hp', E', h1, h2, h3, h4, h5⟩ := tdo_sound hC h hraw hd hps
        exact ⟨v, hp', E', _, _, h1, h5, put_conc h2 hdst h4, h3.trans put_hist, hk⟩
      · exact hk.elim
    · rename_i g want hg
      right
      split at hk
      · rename_i b hb
        have hgb := guardT_rel (h.ts g) hb
        refine ⟨g, want, b, hg, hgb.1, hgb.2, ?_⟩
        -- under the guard
        let raw1 : Opd → TV := fun x => rdG g want (T.raw x)
        let raw2 : Opd → TV := fun x => if x ∈ optsI i then raw1 x else .und
        have under : (∀ p ∈ rdGP g b want ((optsI i).map T.raw), p) → b = want → ∀ x, TRel E (raw2 x) (st.get x) := by
          intro hp hbw x
          simp only [raw2]
          split
          · rename_i hx; exact rdG_rel hraw hp hbw x hx
          · exact .und _
        have cong := tdo_congr (X := X) (T := T) (raw := raw1) (raw2 := raw2) (i := i) (fun x hx => if_pos hx)
        split at hk
        · rename_i ps tv hd
          obtain ⟨hps, hk⟩ := conj_iff.1 hk
          refine ⟨fun hbw => ?_, fun hbw => ⟨E, _, _, put_conc h hdst (.opt _ _ _ _ _ (fun e => absurd e hbw) fun _ => rfl), put_hist, hk⟩⟩
          have hps' : ∀ p ∈ rdGP g b want ((optsI i).map T.raw) ++ ps, p := fun p hp => hps _ (List.mem_map.2 ⟨p, hp, rfl⟩) hbw
          have hr2 := under (fun p hp => hps' p (by simp [hp])) hbw
          obtain ⟨v, hp', h1, h2, h3, h4⟩ := tdoP_sound hC h hr2 (by rw [cong.2.1]; exact hd) (fun p hp => hps' p (by simp [hp]))
          rw [cong.2.2] at h4
          exact ⟨v, hp', E, _, _, h1, h4, put_conc h2 hdst (.opt _ _ _ _ _ (fun _ => h3) fun e => absurd hbw e), put_hist, hk⟩
        · split at hk
          · rename_i ps tv T' hd
            obtain ⟨hk1, hk2⟩ := hk
            refine ⟨fun hbw => ?_, fun hbw => ⟨E, _, _, put_conc h hdst .no, put_hist, hk2 (by cases b <;> cases want <;> simp_all)⟩⟩
            obtain ⟨hps', hk⟩ := conj_iff.1 (hk1 hbw)
            have hr2 := under (fun p hp => hps' p (by simp [hp])) hbw
            obtain ⟨v, hp', E', h1, h2, h3, h4, h5⟩ := tdo_sound hC h hr2 (by rw [cong.1]; exact hd) (fun p hp => hps' p (by simp [hp]))
            rw [cong.2.2] at h5
            exact ⟨v, hp', E', _, _, h1, h5, put_conc h2 hdst h4, h3.trans put_hist, hk⟩
          · obtain ⟨hk1, hk2⟩ := hk
            exact ⟨fun hbw => (hk1 hbw).elim, fun hbw => ⟨E, _, _, put_conc h hdst .no, put_hist, hk2 (by cases b <;> cases want <;> simp_all)⟩⟩
      · exact hk.elim
    · exact hk.elim
end
end Go.Mx
