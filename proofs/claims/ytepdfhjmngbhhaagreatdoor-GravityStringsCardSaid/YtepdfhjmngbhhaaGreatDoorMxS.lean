/- Layers of the walk: abstract values, operations, calls, loops, and what they do. No condition. -/
import Derived.Test.YtepdfhjmngbhhaaGreatDoorMxW
namespace Go.Mx
variable [Laid]
open Go.RowKit

abbrev Sheds (hp:List Blk):List Blk := frzAll hp (List.range hp.length)

def Rounds (P:Program) (l:Nat) (vs:List (List V)) (J:Nat→(Nat→Prop)→World→Prop) (Jx:World→Prop):Prop :=
 ∀ (k:Nat) (S1:Nat→Prop) (W0 W1:World) (S2:Nat→Prop) (args:Array Value) (xs:List V),J k S1 W0→Fr (fun _ => False) W0 W1→(∀ b,S1 b→S2 b)→(∀ b,S2 b→S1 b ∨ W0.heap.size≤b)→(∀ b,S2 b→b < W1.heap.size) →
   vs[k]? = some xs→args.size = xs.length→(∀ i v,xs[i]? = some v→VRel Plc0 S2 W1 v (args.getD i undef)) →
   YieldAt (Fw none) 0 P l args W1 (fun e W2 => (e = .returned (.bool true)∧J (k + 1) S2 W2∧Keeps S2 W1 W2) ∨ (e = .returned (.bool false)∧Jx W2∧Keeps S2 W1 W2))

def YCall (P:Program) (l:Nat) (vs:List (List V)) (f:FuncId) (as:List V) (k k' : Nat):Prop :=
 ∀ (J:Nat→(Nat→Prop)→World→Prop) (Jx:World→Prop),Rounds P l vs J Jx →
 ∀ (w W0:World) (S0 S:Nat→Prop) (vals:Array Value),J k S0 W0→Fr (fun _ => False) W0 w→(∀ b,S0 b→S b)→(∀ b,S b→S0 b ∨ W0.heap.size≤b)→(∀ b,S b→b < w.heap.size)→Glob S w→vals.size = as.length→(∀ i v,as[i]? = some v→VRel Plc0 S w v (vals.getD i undef)) →
  CallsIn (Fw none) 0 P f vals w (fun e w' => ∃ b,e = .returned (.bool b)∧Keeps S w w' ∧
   ((b = true∧∃ (S0' : Nat→Prop) (W0' : World) (S1:Nat→Prop),J k' S0' W0'∧Fr (fun _ => False) W0' w'∧(∀ b,S0' b→S1 b)∧(∀ b,S1 b→S0' b ∨ W0'.heap.size≤b)∧(∀ b,S1 b→b < w'.heap.size)∧∀ b,S b→S1 b) ∨ (b = false∧∃ W1,Jx W1∧Fr (fun _ => False) W1 w')))
def purY (hp:List Blk):V→Option V
 | .yld l => some (.yld l)
 | v => pur hp v

def YStep (P:Program) (l:Nat) (vs:List (List V)) (tr:Option Nat) (st:St) (i:AIns) (K:Option Nat→St→Prop):Prop :=
 match i.op with
 | .callv _ x args => match st.get x with
  | .yld l' => l' = l∧∃ k xs,tr = some k∧vs[k]? = some xs∧optAll (pur st.hp) (args.map st.get) = some xs ∧
    K (some (k + 1)) (St.put ⟨st.ts,Sheds st.hp⟩ i.dst (.p (.bool true)))∧K none (St.put ⟨st.ts,Sheds st.hp⟩ i.dst (.p (.bool false)))
  | _ => AStep P 0 st i (K tr)
 | .call _ f args => (∃ k k' xs,tr = some k∧optAll (purY st.hp) (args.map st.get) = some xs∧callable P f = true∧YCall P l vs f xs k k' ∧
    K (some k') (St.put ⟨st.ts,Sheds st.hp⟩ i.dst (.p (.bool true)))∧K none (St.put ⟨st.ts,Sheds st.hp⟩ i.dst (.p (.bool false)))) ∨ AStep P 0 st i (K tr)
 | _ => AStep P 0 st i (K tr)

def YRun (P:Program) (l:Nat) (vs:List (List V)):List AIns→Option Nat→St→(Option Nat→St→Prop)→Prop
 | [],tr,st,K => K tr st
 | i :: r,tr,st,K =>
  match i.guard with
  | none => YStep P l vs tr st i (fun tr' st' => YRun P l vs r tr' st' K)
  | some (some g,want) => match st.get (.t g) with
   | .p (.bool b) => if b = want then YStep P l vs tr st i (fun tr' st' => YRun P l vs r tr' st' K) else YRun P l vs r tr (st.put i.dst .no) K
   | .no => YRun P l vs r tr (st.put i.dst .no) K
   | _ => False
  | some (none,_) => False

def YEx.seq (next:Option Nat→St→Prop) (Q:Option Nat→AEx→St→Prop):Option Nat→AEx→St→Prop
 | tr,.normal,s => next tr s
 | tr,e,s => Q tr e s

def YWp (P:Program) (l:Nat) (vs:List (List V)):ACode→(Option Nat→AEx→St→Prop)→Option Nat→St→Prop
 | .skip,Q,tr,st => Q tr .normal st
 | .reg ops,Q,tr,st => YRun P l vs ops tr st (fun tr s => Q tr .normal s)
 | .regd ops pairs,Q,tr,st => ARunD P 0 pairs ops st [] (fun s => Q tr .normal s)
 | .seq x y,Q,tr,st => YWp P l vs x (YEx.seq (YWp P l vs y Q) Q) tr st
 | .cond c x y,Q,tr,st => match st.get c with
  | .p (.bool b) => if b = true then YWp P l vs x Q tr st else YWp P l vs y Q tr st
  | _ => False
 | .block id x,Q,tr,st => YWp P l vs x (fun tr => AEx.blk id (Q tr)) tr st
 | .loop x,Q,tr,st => ∃ (I:Option Nat→St→Prop) (μ:Option Nat→St→Nat),I tr st∧∀ t s,I t s→YWp P l vs x (YEx.seq (fun t' s' => I t' s'∧μ t' s' < μ t s) Q) t s
 | .exit id,Q,tr,st => Q tr (.exit id) st
 | .ret,Q,tr,st => Q tr .ret st
 | _,_,_,_ => False

section
variable {P:Program} {l:Nat} {vs:List (List V)}

theorem yrun_mono {K K' : Option Nat→St→Prop} (hK:∀ t s,K t s→K' t s):∀ (ops:List AIns) (tr:Option Nat) (st:St),YRun P l vs ops tr st K→YRun P l vs ops tr st K'
 | [],tr,st,h => hK tr st h
 | i :: r,tr,st,h => by
  have step:∀ {tr:Option Nat} {st:St},YStep P l vs tr st i (fun tr' st' => YRun P l vs r tr' st' K)→YStep P l vs tr st i (fun tr' st' => YRun P l vs r tr' st' K') := by
   intro tr st h
   have plain:AStep P 0 st i (fun st' => YRun P l vs r tr st' K)→AStep P 0 st i (fun st' => YRun P l vs r tr st' K') := fun h => astep_mono (fun s hs => yrun_mono hK r tr s hs) h
   unfold YStep at h ⊢
   split at h
   ·split at h
    ·obtain ⟨h1,k,xs,h2,h3,h4,h5,h6⟩ := h
     exact ⟨h1,k,xs,h2,h3,h4,yrun_mono hK r _ _ h5,yrun_mono hK r _ _ h6⟩
    ·exact plain h
   ·rcases h with ⟨k,k',xs,h1,h2,h3,h4,h5,h6⟩ | h
    ·exact .inl ⟨k,k',xs,h1,h2,h3,h4,yrun_mono hK r _ _ h5,yrun_mono hK r _ _ h6⟩
    ·exact .inr (plain h)
   ·exact plain h
  simp only [YRun] at h ⊢
  split at h
  ·exact step h
  ·split at h
   ·split at h
    ·rename_i e; rw [if_pos e]; exact step h
    ·rename_i e; rw [if_neg e]; exact yrun_mono hK r _ _ h
   ·exact yrun_mono hK r _ _ h
   ·exact h
  ·exact h

theorem yrun_false:∀ (ops:List AIns) (tr:Option Nat) (st:St),¬ YRun P l vs ops tr st (fun _ _ => False)
 | [],tr,st,h => h
 | i :: r,tr,st,h => by
  have astep_false:¬ AStep P 0 st i (fun _ => False) := by
   intro h
   unfold AStep at h
   repeat' split at h
   all_goals first | exact h | (simp at h)
  have step:∀ {tr:Option Nat},¬ YStep P l vs tr st i (fun tr' st' => YRun P l vs r tr' st' (fun _ _ => False)) := by
   intro tr h
   unfold YStep at h
   split at h
   ·split at h
    ·obtain ⟨_,k,xs,_,_,_,h5,_⟩ := h
     exact yrun_false r _ _ h5
    ·exact astep_false (astep_mono (fun s hs => yrun_false r _ s hs) h)
   ·rcases h with ⟨k,k',xs,_,_,_,_,h5,_⟩ | h
    ·exact yrun_false r _ _ h5
    ·exact astep_false (astep_mono (fun s hs => yrun_false r _ s hs) h)
   ·exact astep_false (astep_mono (fun s hs => yrun_false r _ s hs) h)
  simp only [YRun] at h
  split at h
  ·exact step h
  ·split at h
   ·split at h
    ·exact step h
    ·exact yrun_false r _ _ h
   ·exact yrun_false r _ _ h
   ·exact h
  ·exact h

def YUnr (P:Program) (l:Nat) (vs:List (List V)) (x:ACode) (Q:Option Nat→AEx→St→Prop):Nat→Option Nat→St→Prop
 | 0,_,_ => False
 | n + 1,tr,st => YWp P l vs x (YEx.seq (YUnr P l vs x Q n) Q) tr st

theorem ywp_mono:∀ (c:ACode) (Q Q' : Option Nat→AEx→St→Prop) (tr:Option Nat) (st:St),(∀ t e s,Q t e s→Q' t e s)→YWp P l vs c Q tr st→YWp P l vs c Q' tr st := by
 intro c
 induction c with
 | skip => intro Q Q' tr st hQ h; exact hQ _ _ _ h
 | reg ops => intro Q Q' tr st hQ h; exact yrun_mono (fun t s => hQ t .normal s) ops tr st h
 | regd ops pairs => intro Q Q' tr st hQ h; exact arund_mono (fun s => hQ tr .normal s) ops st [] h
 | seq x y ihx ihy =>
  intro Q Q' tr st hQ h
  refine ihx _ _ tr st ?_ h
  intro t e s he
  cases e with
  | normal => exact ihy Q Q' t s hQ he
  | exit id => exact hQ _ _ _ he
  | ret => exact hQ _ _ _ he
 | cond o x y ihx ihy =>
  intro Q Q' tr st hQ h
  simp only [YWp] at h ⊢
  split at h
  ·split at h
   ·rename_i e; rw [if_pos e]; exact ihx Q Q' tr st hQ h
   ·rename_i e; rw [if_neg e]; exact ihy Q Q' tr st hQ h
  ·exact h
 | block id x ih =>
  intro Q Q' tr st hQ h
  refine ih _ _ tr st ?_ h
  intro t e s he
  cases e with
  | normal => exact hQ _ _ _ he
  | exit j =>
   simp only [AEx.blk] at he ⊢
   split at he
   ·rename_i e; rw [if_pos e]; exact hQ _ _ _ he
   ·rename_i e; rw [if_neg e]; exact hQ _ _ _ he
  | ret => exact hQ _ _ _ he
 | loop x ih =>
  intro Q Q' tr st hQ h
  obtain ⟨I,μ,h0,hr⟩ := h
  refine ⟨I,μ,h0,fun t s hs => ih _ _ t s ?_ (hr t s hs)⟩
  intro t e s' he
  cases e with
  | normal => exact he
  | exit id => exact hQ _ _ _ he
  | ret => exact hQ _ _ _ he
 | exit id => intro Q Q' tr st hQ h; exact hQ _ _ _ h
 | ret => intro Q Q' tr st hQ h; exact hQ _ _ _ h
 | rng => intro Q Q' tr st hQ h; exact h.elim
 | rngc => intro Q Q' tr st hQ h; exact h.elim

theorem y_loop {x:ACode} {Q:Option Nat→AEx→St→Prop} {tr:Option Nat} {st:St} (n:Nat) (h:YUnr P l vs x Q n tr st):YWp P l vs (.loop x) Q tr st := by
 refine ⟨fun t s => ∃ n,YUnr P l vs x Q n t s,fun t s => leastOf (fun n => YUnr P l vs x Q n t s),⟨n,h⟩,?_⟩
 intro t s hs
 have hk := leastOf_spec hs
 generalize hkk:leastOf (fun n => YUnr P l vs x Q n t s) = k at hk
 obtain ⟨h1,_⟩ := hk
 cases k with
 | zero => exact h1.elim
 | succ k =>
  refine ywp_mono x _ _ t s ?_ h1
  intro t' e s' he
  cases e with
  | normal =>
   refine ⟨⟨k,he⟩,?_⟩
   have := (leastOf_spec (p := fun n => YUnr P l vs x Q n t' s') ⟨k,he⟩).2 k he
   show leastOf (fun n => YUnr P l vs x Q n t' s') < leastOf (fun n => YUnr P l vs x Q n t s)
   rw [hkk]; omega
  | exit id => exact he
  | ret => exact he

def Dy:Bs := ⟨fun _ => False,fun _ => undef,fun _ ds => ds = [],0,fun _ => (0,0)⟩

def SimY (J:Nat→(Nat→Prop)→World→Prop) (Jx:World→Prop) (tr:Option Nat) (st:St) (a:Act) (w:World):Prop :=
 ∃ W0 S0,(match tr with | some k => J k S0 W0 | none => Jx W0)∧SimE 0 W0 S0 (fun _ => False) Dy st a w

omit [Laid] in
theorem frz1_st {hp:List Blk} {t u:Nat} {b:Blk} (h:(frz1 hp t)[u]? = some b) (hl:b.st = .live):u ≠ t∧hp[u]? = some b := by
 unfold frz1 at h
 split at h
 ·rename_i b' hb'
  split at h
  ·rw [List.getElem?_set] at h
   by_cases e:t = u
   ·rw [if_pos e] at h
    split at h
    ·simp only [sJ] at h; subst h; cases hl
    ·cases h
   ·rw [if_neg e] at h; exact ⟨fun e' => e e'.symm,h⟩
  ·rename_i hn
   refine ⟨fun e => ?_,h⟩
   subst e
   rw [hb'] at h
   simp only [sJ] at h; subst h
   rw [hl] at hn; exact hn rfl
 ·rename_i hn
  refine ⟨fun e => ?_,h⟩
  subst e; rw [hn] at h; cases h
omit [Laid] in
theorem frzAll_st:∀ (ts:List Nat) {hp:List Blk} {u:Nat} {b:Blk},(frzAll hp ts)[u]? = some b→b.st = .live→u ∉ ts∧hp[u]? = some b
 | [],_,_,_,h,_ => ⟨by simp,h⟩
 | t :: ts,hp,u,b,h,hl => by
  obtain ⟨h1,h2⟩ := frzAll_st ts h hl
  obtain ⟨h3,h4⟩ := frz1_st h2 hl
  exact ⟨by simp [h1,h3],h4⟩
omit [Laid] in
theorem sheds_live {hp:List Blk} {u:Nat} {b:Blk} (h:(Sheds hp)[u]? = some b):b.st ≠ .live := fun hl => by
 obtain ⟨h1,h2⟩ := frzAll_st _ h hl
 exact h1 (List.mem_range.2 (List.getElem?_eq_some_iff.1 h2).1)

theorem anew_sim {Φ:Plc} {S Jo:Nat→Prop} {w0 W1 W2:World} {S0:Nat→Prop} {ts:List V} {hp:List Blk} {a:Act} (h:Sim 0 w0 S0 Jo Dy Φ S ⟨ts,hp⟩ a W1) (hl:∀ (u:Nat) (b:Blk),hp[u]? = some b→b.st ≠ .live) (hk:Keeps S W1 W2) :
  Sim 0 W2 S (fun _ => False) Dy Φ S ⟨ts,hp⟩ a W2 := by
 refine ⟨?_,h.same,h.size,fun t v hv => (h.ts t v hv).mono (fun _ _ _ e => e) (fun _ e => e) hk.same,?_,h.fresh,fun t t' b b' c sz c' sz' h1 _ h3 => absurd h3 (hl t b h1),fun b hb => Nat.lt_of_lt_of_le (h.Slt b hb) hk.size,fun _ e => e,fun _ e => .inl e,Fr.refl _ _,fun t ht => absurd ht (Nat.not_lt_zero _),h.glob.mono (fun _ e => e) hk.same⟩
 ·have:a.defers = [] := h.same.2
  rw [this]; trivial
 ·intro t b hb
  have hB := h.hp t b hb
  unfold BRel at hB ⊢
  split at hB
  ·trivial
  ·rename_i hl'; exact absurd hl' (hl t b hb)
  ·rcases hB with hB | ⟨c,sz,k1,k2,arr,ty,fz,k3,k4,k5⟩
   ·exact .inl hB
   ·exact .inr ⟨c,sz,k1,k2,arr,ty,fz,(hk.same c k2).trans k3,k4,fun i x hx => (k5 i x hx).mono (fun _ _ _ e => e) (fun _ e => e) hk.same⟩

theorem yield_sound {J:Nat→(Nat→Prop)→World→Prop} {Jx:World→Prop} (hR:Rounds P l vs J Jx) {k:Nat} {st:St} {a:Act} {w:World} (h:SimY J Jx (some k) st a w) {sites:List Nat} {ops:Array Oper} {o:Oper} {i:AIns} (hc:cIns P sites ops o = some i)
  {s:Nat} {x:Opd} {args:List Opd} (hi:i.op = .callv s x args) (hx:st.get x = .yld l) {xs:List V} (hxs:vs[k]? = some xs) (hpur:optAll (pur st.hp) (args.map st.get) = some xs)
  {next:Act→World→Prop} (ht:∀ a w,SimY J Jx (some (k + 1)) (St.put ⟨st.ts,Sheds st.hp⟩ o.dst (.p (.bool true))) a w→next a w) (hf:∀ a w,SimY J Jx none (St.put ⟨st.ts,Sheds st.hp⟩ o.dst (.p (.bool false))) a w→next a w) (Q:Exit→Act→World→Prop):o.wpIn (Fw none) 0 P a w next Q := by
 obtain ⟨W0,S0,hJ,Φ,S,h⟩ := h
 refine ⟨fun _ _ => trivial,?_⟩
 unfold cIns at hc
 split at hc
 ·rename_i ai hai
  simp only [sJ] at hc
  subst hc
  simp only at hi
  subst hi
  unfold cAI at hai
  split at hai
  ·rename_i c hop
   have hnd:∀ c',o.op ≠ .defer c' := by intro c' e; rw [hop] at e; cases e
   have hex:execOp a.eval o = (do let d ← resolve a.eval c o.type; invoke d.target d.args) := by unfold execOp; rw [hop]
   split at hai
   ·split at hai
    ·cases hai
    ·simp only [Option.map_eq_some_iff] at hai
     obtain ⟨_,_,e⟩ := hai; cases e
   ·rename_i y _ hcal
    simp only [sJ,AI.callv.injEq] at hai
    obtain ⟨_,e2,e3⟩ := hai
    subst e2 e3
    have gx := rel_get h y
    rw [hx] at gx
    have hev:a.eval y = .func (.yield l) #[] #[] := (fun v (h:VRel Φ S w (.yld l) v) => (by cases h; rfl:v = .func (.yield l) #[] #[])) _ gx
    have hargs := args_rel h c.args
    obtain ⟨S2,g1,g2,g3⟩ := frzAll_sim (List.range st.hp.length) S st h (fun _ _ => Nat.zero_le _)
    obtain ⟨k1,k2⟩ := optAll_get _ xs hpur
    have hrel:∀ (i:Nat) (v:V),xs[i]? = some v→VRel Plc0 S2 w v ((c.args.map a.eval).getD i undef) := by
     intro i v hv
     obtain ⟨u,hu,hpu⟩ := k2 i v hv
     exact pur_rel h g1 (hargs.2 i u hu) hpu (fun t _ b c sz hb hok hp => g2 t (List.mem_range.2 (List.getElem?_eq_some_iff.1 hb).1) b c sz hb hok hp)
    obtain ⟨fn,tmps,assign,body,hrun,hround⟩ := hR k S0 W0 w S2 (c.args.map a.eval) xs hJ h.frame (fun b hb => g3.Sold b hb) (fun b hb => (g3.Snew b hb).imp id (fun h => h.resolve_right (fun e => e))) g3.Slt hxs (by rw [k1,hargs.1]) hrel
    have hsem:(execOp a.eval o).run P w = .ok (.round l fn tmps assign body) w := by
     rw [hex]
     simp only [resolve,hcal,Deferred.ofValue,hev,invoke]
     simpa using hrun
    rw [Oper.semAt_eq _ _ _ hnd,hsem,Oper.uponIn_round]
    refine ⟨fun e => by simp [Fw,Fence.wide] at e,?_⟩
    refine hround.mono ?_
    have hshed:∀ (u:Nat) (b:Blk),(Sheds st.hp)[u]? = some b→b.st ≠ .live := fun u b hb => sheds_live hb
    rintro e W2 (⟨rfl,hj,hkeep⟩ | ⟨rfl,hj,hkeep⟩)
    ·exact ht _ _ ⟨W2,S2,hj,Φ,S2,(anew_sim (ts := st.ts) g3 hshed hkeep).put (fun _ _ e => e) (.p _ _ (.bool true))⟩
    ·exact hf _ _ ⟨W2,S2,hj,Φ,S2,(anew_sim (ts := st.ts) g3 hshed hkeep).put (fun _ _ e => e) (.p _ _ (.bool false))⟩
   ·simp only [Option.map_eq_some_iff] at hai
    obtain ⟨_,_,e⟩ := hai; cases e
  ·simp only [Option.map_eq_some_iff] at hai
   obtain ⟨_,_,e⟩ := hai; cases e
 ·cases hc

theorem after_sim {Φ:Plc} {S Jo:Nat→Prop} {w0 W1 w' : World} {S0:Nat→Prop} {ts:List V} {hp:List Blk} {a:Act} (h:Sim 0 w0 S0 Jo Dy Φ S ⟨ts,hp⟩ a W1) (hl:∀ (u:Nat) (b:Blk),hp[u]? = some b→b.st ≠ .live) (hk:Keeps S W1 w') {S' Sb:Nat→Prop} {Wb:World}
  (hS:∀ b,S b→S' b) (hlt:∀ b,S' b→b < w'.heap.size) (h1:∀ b,Sb b→S' b) (h2:∀ b,S' b→Sb b ∨ Wb.heap.size≤b) (hF:Fr (fun _ => False) Wb w'):Sim 0 Wb Sb (fun _ => False) Dy Φ S' ⟨ts,hp⟩ a w' := by
 refine ⟨?_,h.same,h.size,fun t v hv => (h.ts t v hv).mono (fun _ _ _ e => e) hS hk.same,?_,h.fresh,fun t t' b b' c sz c' sz' h1 _ h3 => absurd h3 (hl t b h1),hlt,h1,fun b hb => (h2 b hb).imp id .inl,hF,fun t ht => absurd ht (Nat.not_lt_zero _),h.glob.mono hS hk.same⟩
 ·have:a.defers = [] := h.same.2
  rw [this]; trivial
 ·intro t b hb
  have hB := h.hp t b hb
  unfold BRel at hB ⊢
  split at hB
  ·trivial
  ·rename_i hl'; exact absurd hl' (hl t b hb)
  ·rcases hB with hB | ⟨c,sz,k1,k2,arr,ty,fz,k3,k4,k5⟩
   ·exact .inl hB
   ·exact .inr ⟨c,sz,k1,hS c k2,arr,ty,fz,(hk.same c k2).trans k3,k4,fun i x hx => (k5 i x hx).mono (fun _ _ _ e => e) hS hk.same⟩
theorem ycall_sound {J:Nat→(Nat→Prop)→World→Prop} {Jx:World→Prop} (hR:Rounds P l vs J Jx) {k k' : Nat} {st:St} {a:Act} {w:World} (h:SimY J Jx (some k) st a w) {sites:List Nat} {ops:Array Oper} {o:Oper} {i:AIns} (hc:cIns P sites ops o = some i)
  {s:Nat} {f:FuncId} {args:List Opd} (hi:i.op = .call s f args) (hcl:callable P f = true) {xs:List V} (hpur:optAll (purY st.hp) (args.map st.get) = some xs) (hY:YCall P l vs f xs k k')
  {next:Act→World→Prop} (ht:∀ a w,SimY J Jx (some k') (St.put ⟨st.ts,Sheds st.hp⟩ o.dst (.p (.bool true))) a w→next a w) (hf:∀ a w,SimY J Jx none (St.put ⟨st.ts,Sheds st.hp⟩ o.dst (.p (.bool false))) a w→next a w) (Q:Exit→Act→World→Prop):o.wpIn (Fw none) 0 P a w next Q := by
 obtain ⟨W0,S0,hJ,Φ,S,h⟩ := h
 refine ⟨fun _ _ => trivial,?_⟩
 unfold cIns at hc
 split at hc
 ·rename_i ai hai
  simp only [sJ] at hc
  subst hc
  simp only at hi
  subst hi
  unfold cAI at hai
  split at hai
  ·rename_i c hop
   have hnd:∀ c',o.op ≠ .defer c' := by intro c' e; rw [hop] at e; cases e
   have hex:execOp a.eval o = (do let d ← resolve a.eval c o.type; invoke d.target d.args) := by unfold execOp; rw [hop]
   split at hai
   ·rename_i f' hcal
    split at hai
    ·simp only [sJ,AI.call.injEq] at hai
     obtain ⟨_,e2,e3⟩ := hai
     subst e2 e3
     have hargs := args_rel h c.args
     obtain ⟨S2,g1,g2,g3⟩ := frzAll_sim (List.range st.hp.length) S st h (fun _ _ => Nat.zero_le _)
     obtain ⟨k1,k2⟩ := optAll_get _ xs hpur
     have hrel:∀ (i:Nat) (v:V),xs[i]? = some v→VRel Plc0 S2 w v ((c.args.map a.eval).getD i undef) := by
      intro i v hv
      obtain ⟨u,hu,hpu⟩ := k2 i v hv
      have hr := hargs.2 i u hu
      cases u with
      | yld l' =>
       simp only [purY,sJ] at hpu
       subst hpu
       generalize (c.args.map a.eval).getD i undef = z at hr ⊢
       cases hr with
       | yld => exact .yld _
      | _ => exact pur_rel h g1 hr hpu (fun t _ b c sz hb hok hp => g2 t (List.mem_range.2 (List.getElem?_eq_some_iff.1 hb).1) b c sz hb hok hp)
     have hrun:(execOp a.eval o).run P w = .ok (.enter f' (c.args.map a.eval)) w := by
      rw [hex]
      simp [resolve,hcal,Deferred.ofValue,Act.eval,invoke,callFunc_run hcl]
     rw [Oper.semAt_eq _ _ _ hnd,hrun,Oper.uponIn_enter]
     refine ⟨fun e => by simp [Fw,Fence.wide] at e,?_⟩
     have hshed:∀ (u:Nat) (b:Blk),(Sheds st.hp)[u]? = some b→b.st ≠ .live := fun u b hb => sheds_live hb
     refine CallsIn.mono (hY J Jx hR w W0 S0 S2 (c.args.map a.eval) hJ h.frame (fun b hb => g3.Sold b hb) (fun b hb => (g3.Snew b hb).imp id (fun h => h.resolve_right (fun e => e))) g3.Slt g3.glob (by rw [k1,hargs.1]) hrel) ?_
     rintro e w' ⟨b,rfl,hk,⟨rfl,S0',W0',S1,q1,q2,q3,q4,q5,q6⟩ | ⟨rfl,W1,q1,q2⟩⟩
     ·exact ht _ _ ⟨W0',S0',q1,Φ,S1,(after_sim (ts := st.ts) g3 hshed hk q6 q5 q3 q4 q2).put (fun _ _ e => e) (.p _ _ (.bool true))⟩
     ·exact hf _ _ ⟨W1,S2,q1,Φ,S2,(after_sim (ts := st.ts) g3 hshed hk (fun _ e => e) (fun b hb => Nat.lt_of_lt_of_le (g3.Slt b hb) hk.size) (fun _ e => e) (fun _ e => .inl e) q2).put (fun _ _ e => e) (.p _ _ (.bool false))⟩
    ·simp only [Option.map_eq_some_iff] at hai
     obtain ⟨_,_,e⟩ := hai; cases e
   ·simp only [sJ,reduceCtorEq] at hai
   ·simp only [Option.map_eq_some_iff] at hai
    obtain ⟨_,_,e⟩ := hai; cases e
  ·simp only [Option.map_eq_some_iff] at hai
   obtain ⟨_,_,e⟩ := hai; cases e
 ·cases hc

theorem ystep_sound {J:Nat→(Nat→Prop)→World→Prop} {Jx:World→Prop} (hR:Rounds P l vs J Jx) {tr:Option Nat} {st:St} {a:Act} {w:World} (h:SimY J Jx tr st a w) {sites:List Nat} {ops:Array Oper} {o:Oper} {i:AIns} (hc:cIns P sites ops o = some i)
  {K:Option Nat→St→Prop} (hs:YStep P l vs tr st i K) {next:Act→World→Prop} (hK:∀ tr st a w,K tr st→SimY J Jx tr st a w→next a w) (Q:Exit→Act→World→Prop):o.wpIn (Fw none) 0 P a w next Q := by
 have hdst:i.dst = o.dst := by
  have hc' := hc
  unfold cIns at hc'
  split at hc'
  ·simp only [sJ] at hc'; rw [← hc']
  ·cases hc'
 have plain:AStep P 0 st i (K tr)→o.wpIn (Fw none) 0 P a w next Q := by
  intro h1
  obtain ⟨W0,S0,hJ,hsim⟩ := h
  exact step_sound hsim hc (fun _ _ e => e) h1 (fun st a w hk hsim => hK tr st a w hk ⟨W0,S0,hJ,hsim⟩) Q
 unfold YStep at hs
 split at hs
 ·rename_i s x args hi
  split at hs
  ·rename_i l' hx
   obtain ⟨rfl,k,xs,rfl,h3,h4,h5,h6⟩ := hs
   rw [hdst] at h5 h6
   exact yield_sound hR h hc hi hx h3 h4 (fun a w hy => hK _ _ a w h5 hy) (fun a w hy => hK _ _ a w h6 hy) Q
  ·exact plain hs
 ·rename_i s f args hi
  rcases hs with ⟨k,k',xs,rfl,h2,h3,h4,h5,h6⟩ | hs
  ·rw [hdst] at h5 h6
   exact ycall_sound hR h hc hi h3 h2 h4 (fun a w hy => hK _ _ a w h5 hy) (fun a w hy => hK _ _ a w h6 hy) Q
  ·exact plain hs
 ·exact plain hs

theorem yrun_sound {J:Nat→(Nat→Prop)→World→Prop} {Jx:World→Prop} (hR:Rounds P l vs J Jx) {sites:List Nat} {ops:Array Oper} {Q:Exit→Act→World→Prop} {K:Option Nat→St→Prop} (hK:∀ tr st a w,K tr st→SimY J Jx tr st a w→Q .normal a w) :
  ∀ (lo:List Oper) (il:List AIns) (tr:Option Nat) (st:St) (a:Act) (w:World),optAll (cIns P sites ops) lo = some il→SimY J Jx tr st a w→YRun P l vs il tr st K→wpListIn (Fw none) 0 P ops Q lo a w
 | [],il,tr,st,a,w,hc,h,hr => by
  simp only [optAll,sJ] at hc; subst hc
  exact hK tr st a w hr h
 | o :: lo,il,tr,st,a,w,hc,h,hr => by
  simp only [optAll] at hc
  split at hc
  ·rename_i i is hi his
   simp only [sJ] at hc; subst hc
   have next:∀ tr st a w,YRun P l vs is tr st K→SimY J Jx tr st a w→wpListIn (Fw none) 0 P ops Q lo a w := fun tr st a w h1 h2 => yrun_sound hR hK lo is tr st a w his h2 h1
   have put:∀ {v:V} (_:∀ Φ S w,VRel Φ S w v undef),SimY J Jx tr (st.put o.dst v) (a.put o.dst undef) w := by
    intro v hv
    obtain ⟨W0,S0,hJ,Φ,S,hsim⟩ := h
    exact ⟨W0,S0,hJ,Φ,S,hsim.put (fun _ _ e => e) (hv _ _ _)⟩
   have hi' := hi
   unfold cIns at hi'
   split at hi'
   ·rename_i ai _
    simp only [sJ] at hi'
    have hguard:i.guard = o.guard.map fun g => ((ops[g.1]?).bind (·.dst),g.2) := by rw [← hi']
    have hdst:i.dst = o.dst := by rw [← hi']
    simp only [YRun] at hr
    simp only [wpListIn]
    cases hg:o.guard with
    | none =>
     rw [hg] at hguard
     simp only [Option.map_none] at hguard
     rw [hguard] at hr
     rw [if_pos (by simp [Region.wanted,hg])]
     exact ystep_sound hR h hi hr next Q
    | some g =>
     obtain ⟨gi,want⟩ := g
     rw [hg] at hguard
     simp only [Option.map_some] at hguard
     rw [hguard] at hr
     cases hd:(ops[gi]?).bind (·.dst) with
     | none => rw [hd] at hr; exact hr.elim
     | some d =>
      rw [hd] at hr
      simp only at hr
      split at hr
      ·rename_i b hb
       have hval:a.tmps[d]? = some (.bool b) := by
        obtain ⟨W0,S0,hJ,Φ,S,hsim⟩ := h
        simp only [St.get] at hb
        cases ht:st.ts[d]? with
        | none => simp [ht] at hb
        | some v =>
         simp only [ht,Option.getD_some] at hb
         subst hb
         have h1 := inv_bool (hsim.ts d _ ht)
         have hlt:d < a.tmps.size := by rw [hsim.size]; exact (List.getElem?_eq_some_iff.1 ht).1
         have e2:a.tmps.getD d undef = a.tmps[d] := by simp [Array.getD,hlt]
         rw [e2] at h1
         simp [hlt,h1]
       have hy:yielded ops a.tmps gi = some b := by simp [yielded,hd,hval]
       have hw:Region.wanted o (yielded ops a.tmps) = decide (b = want) := by
        simp only [Region.wanted,hg,hy]
        cases b <;> cases want <;> rfl
       rw [hw]
       split at hr
       ·rename_i e
        rw [if_pos (by simp [e])]
        exact ystep_sound hR h hi hr next Q
       ·rename_i e
        rw [if_neg (by simp [e])]
        refine ⟨fun _ _ => trivial,next _ _ _ _ hr ?_⟩
        rw [hdst]
        exact put (fun _ _ _ => .no)
      ·rename_i hb
       have h2 := h
       obtain ⟨W0,S0,hJ,hsim⟩ := h2
       rw [no_wanted hsim hg hd hb,if_neg (by simp)]
       refine ⟨fun _ _ => trivial,next _ _ _ _ hr ?_⟩
       rw [hdst]
       exact put (fun _ _ _ => .no)
      ·exact hr.elim
   ·cases hi'
  ·cases hc

theorem y_sound {J:Nat→(Nat→Prop)→World→Prop} {Jx:World→Prop} (hR:Rounds P l vs J Jx) {sites:List Nat}:∀ (c:Code) (rf:Bool) (ac:ACode) (Q:Option Nat→AEx→St→Prop) (Q' : Exit→Act→World→Prop) (tr:Option Nat) (st:St) (a:Act) (w:World),
  cCode P sites rf c = some ac→SimY J Jx tr st a w→YWp P l vs ac Q tr st→(∀ tr e st a w,Q tr e st→SimY J Jx tr st a w→Q' e.to a w)→c.wpIn (Fw none) 0 P Q' a w := by
 intro c
 induction c with
 | skip =>
  intro rf ac Q Q' tr st a w hc h hw hQ
  cases rf <;> (simp only [cCode,sJ] at hc; subst hc; exact wpIn_skip (hQ tr .normal st a w hw h))
 | region id ops d =>
  intro rf ac Q Q' tr st a w hc h hw hQ
  cases d with
  | true =>
   cases rf <;> (
    simp only [cCode,Option.map_eq_some_iff] at hc
    obtain ⟨⟨il,pairs⟩,hil,rfl⟩ := hc
    obtain ⟨W0,S0,hJ,hsim⟩ := h
    exact regD_sound hil (fun _ _ _ _ e => e) (fun st a w h1 h2 => hQ tr .normal st a w h1 ⟨W0,S0,hJ,h2⟩) hsim hw)
  | false =>
   cases rf <;> (simp only [cCode,Option.map_eq_some_iff] at hc; obtain ⟨il,hil,rfl⟩ := hc; exact wpIn_region_list (yrun_sound hR (fun tr st a w h1 h2 => hQ tr .normal st a w h1 h2) ops.toList il tr st a w hil h hw))
 | seq x y ihx ihy =>
  intro rf ac Q Q' tr st a w hc h hw hQ
  simp only [cCode] at hc
  split at hc
  ·rename_i ax ay hx hy
   simp only [sJ] at hc; subst hc
   rcases fuse_cases P ax ay with e | ⟨_,_,_,_,_,_,_,_,_,_,_,_,e⟩
   case inr => rw [e] at hw; exact absurd hw (yrun_false _ _ _)
   rw [e] at hw
   refine wpIn_seq (ihx rf ax _ _ tr st a w hx h hw ?_)
   intro t e s a w h1 h2
   cases e with
   | normal => exact ihy rf ay Q Q' t s a w hy h2 h1 hQ
   | exit id => exact hQ t (.exit id) s a w h1 h2
   | ret => exact hQ t .ret s a w h1 h2
  ·cases hc
 | cond o x y ihx ihy =>
  intro rf ac Q Q' tr st a w hc h hw hQ
  simp only [cCode] at hc
  split at hc
  ·rename_i ax ay hx hy
   simp only [sJ] at hc; subst hc
   simp only [YWp] at hw
   split at hw
   ·rename_i b hb
    have hev:a.eval o = .bool b := by
     obtain ⟨W0,S0,hJ,Φ,S,hsim⟩ := h
     have := rel_get hsim o
     rw [hb] at this; exact inv_bool this
    refine wpIn_cond hev ?_
    split at hw
    ·rename_i e; subst e; exact ihx rf ax Q Q' tr st a w hx h hw hQ
    ·rename_i e
     have e' : b = false := by simpa using e
     subst e'; exact ihy rf ay Q Q' tr st a w hy h hw hQ
   ·exact hw.elim
  ·cases hc
 | block id x ih =>
  intro rf ac Q Q' tr st a w hc h hw hQ
  simp only [cCode,Option.map_eq_some_iff] at hc
  obtain ⟨ax,hx,rfl⟩ := hc
  refine wpIn_block (ih rf ax _ _ tr st a w hx h hw ?_)
  intro t e s a w h1 h2
  cases e with
  | normal => exact hQ t .normal s a w h1 h2
  | exit j =>
   simp only [AEx.blk] at h1
   simp only [AEx.to,Exit.inBlock]
   split at h1
   ·rename_i e; rw [if_pos e]; exact hQ t .normal s a w h1 h2
   ·rename_i e; rw [if_neg e]; exact hQ t (.exit j) s a w h1 h2
  | ret => exact hQ t .ret s a w h1 h2
 | loop x ih =>
  intro rf ac Q Q' tr st a w hc h hw hQ
  simp only [cCode,Option.map_eq_some_iff] at hc
  obtain ⟨ax,hx,rfl⟩ := hc
  obtain ⟨I,μ,hI,hr⟩ := hw
  let J' : Nat→Act→World→Prop := fun n a w => ∃ t s,I t s∧μ t s = n∧SimY J Jx t s a w
  refine wpIn_loop (fun a w => ∃ n,J' n a w) (fun a w => leastOf (fun n => J' n a w)) ⟨_,tr,st,hI,rfl,h⟩ ?_
  intro a w hJ
  obtain ⟨⟨t,s,hIs,hμ,hsim⟩,hleast⟩ := leastOf_spec hJ
  refine ih rf ax _ _ t s a w hx hsim (hr t s hIs) ?_
  intro t' e s' a' w' h1 h2
  cases e with
  | normal =>
   obtain ⟨k2,k3⟩ := h1
   have hJ1:J' (μ t' s') a' w' := ⟨t',s',k2,rfl,h2⟩
   refine ⟨⟨_,hJ1⟩,?_⟩
   have := (leastOf_spec (p := fun n => J' n a' w') ⟨_,hJ1⟩).2 _ hJ1
   omega
  | exit j => exact hQ t' (.exit j) s' a' w' h1 h2
  | ret => exact hQ t' .ret s' a' w' h1 h2
 | exit id =>
  intro rf ac Q Q' tr st a w hc h hw hQ
  cases rf <;> (simp only [cCode,sJ] at hc; subst hc; exact wpIn_exit (hQ tr (.exit id) st a w hw h))
 | ret =>
  intro rf ac Q Q' tr st a w hc h hw hQ
  cases rf <;> (simp only [cCode,sJ] at hc; subst hc; exact wpIn_ret (hQ tr .ret st a w hw h))
 | rangeFunc g ps x y =>
  intro rf ac Q Q' tr st a w hc h hw hQ
  cases rf with
  | false => simp [cCode] at hc
  | true =>
   simp only [cCode] at hc
   split at hc
   ·simp only [sJ] at hc; subst hc; exact hw.elim
   ·cases hc
 | scope => intro rf ac Q Q' tr st a w hc; cases rf <;> simp [cCode] at hc
 | label => intro rf ac Q Q' tr st a w hc; cases rf <;> simp [cCode] at hc
 | goto => intro rf ac Q Q' tr st a w hc; cases rf <;> simp [cCode] at hc
 | refuse => intro rf ac Q Q' tr st a w hc; cases rf <;> simp [cCode] at hc

theorem iter_core {f:FuncId} {F:AFn} (hc:cFn P f = some F) (hres:F.res = []) {as:List V} {args:Array Value} {w:World} {S:Nat→Prop} {l:Nat} {J:Nat→(Nat→Prop)→World→Prop} {Jx:World→Prop} (hn' : args.size = as.length) (hv:∀ (i:Nat) (v:V),as[i]? = some v→VRel Plc0 S w v (args.getD i undef)) (hS:∀ b,S b→b < w.heap.size) (hG:Glob S w) (hJ0:J 0 S w)
  (hR:∀ (k:Nat) (S1:Nat→Prop) (W0 W1:World) (S2:Nat→Prop) (args:Array Value) (xs:List V),J k S1 W0→Fr (fun _ => False) W0 W1→(∀ b,S1 b→S2 b)→(∀ b,S2 b→S1 b ∨ W0.heap.size≤b)→(∀ b,S2 b→b < W1.heap.size) →
   vs[k]? = some xs→args.size = xs.length→(∀ i v,xs[i]? = some v→VRel Plc0 S2 W1 v (args.getD i undef)) →
   YieldAt (Fw none) 0 P l args W1 (fun e W2 => (e = .returned (.bool true)∧J (k + 1) S2 W2∧Keeps S2 W1 W2) ∨ (e = .returned (.bool false)∧Jx W2∧Keeps S2 W1 W2)))
  (h:YWp P l vs F.code (fun tr e _ => (∀ id,e ≠ .exit id)∧(tr = some vs.length ∨ tr = none)) (some 0) (initSt F as)) :
  CallsIn (Fw none) 0 P f args w (fun e w' => (∃ v,e = .returned v)∧∃ W0,((∃ S',J vs.length S' W0) ∨ Jx W0)∧Fr (fun _ => False) W0 w') := by
 unfold cFn at hc
 split at hc
 ·rename_i fn hfn
  split at hc
  ·rename_i c hb
   split at hc
   ·rename_i ac rs hac hrs
    simp only [sJ] at hc
    subst hc
    simp only at hres
    subst hres
    refine callsIn_of_wp_marks (F := Fw none) (fn := fn) (c := c) hfn hb trivial ?_ rfl
    have hinit := init_sim (F := ⟨fn.ntmps,(sitesOf c).length,[],ac⟩) hn' hv hS hG rfl
    have hy:SimY J Jx (some 0) (initSt ⟨fn.ntmps,(sitesOf c).length,[],ac⟩ as) { tmps := args ++ Array.replicate (fn.ntmps - args.size) undef,defers := [] } w :=
     ⟨w,S,hJ0,Plc0,S,trivial,⟨fun _ e => e.elim,rfl⟩,hinit.size,hinit.ts,hinit.hp,hinit.fresh,hinit.inj,hinit.Slt,hinit.Sold,hinit.Snew,hinit.frame,fun t ht => absurd ht (Nat.not_lt_zero _),hinit.glob⟩
    refine y_sound hR c true ac _ _ (some 0) _ _ w hac hy h ?_
    intro tr e s a' w' hq ⟨W0,S0,hJ,Φ,S1,hsim⟩
    have fin:LeavesInM (Fw none) 0 P fn a'.tmps (fun e w' => (∃ v,e = .returned v)∧∃ W0,((∃ S',J vs.length S' W0) ∨ Jx W0)∧Fr (fun _ => False) W0 w') a'.defers .returning w' := by
     have hd:a'.defers = [] := hsim.same.2
     rw [hd]
     obtain ⟨x,hx,_⟩ := results_run hsim hrs (v := .tup []) rfl
     refine ⟨x,hx,⟨x,rfl⟩,W0,?_,hsim.frame⟩
     rcases hq.2 with rfl | rfl
     ·exact .inl ⟨S0,hJ⟩
     ·exact .inr hJ
    cases e with
    | normal => exact fin
    | ret => exact fin
    | exit id => exact absurd rfl (hq.1 id)
   ·cases hc
  ·cases hc
 ·cases hc

theorem iter_of {f:FuncId} {F:AFn} (hc:cFn P f = some F) (hres:F.res = []) {cap:List (List Pv)} (h:∀ l,YWp P l vs F.code (fun tr e _ => (∀ id,e ≠ .exit id)∧(tr = some vs.length ∨ tr = none)) (some 0) (initSt F (.yld l :: cap.map .ipt))) (hlt:Nat.blt f 1000000000 = true := by rfl):Iter P f cap vs := by
 intro w S f0 first caps l hcap hS hG J Jx hJ0 hR
 have hlt:@LT.lt Nat _ f 1000000000 := Nat.le_of_ble_eq_true hlt
 cases hcap with
 | bnd _ _ _ _ hg => have := bm_is hg; omega
 | fn _ _ _ _ b o cell hn hs hp h1 h2 =>
  rw [Array.empty_append]
  refine iter_core hc hres (as := .yld l :: cap.map .ipt) (by simp [hn]; omega) ?_ hS hG hJ0 hR (h l)
  intro i v hv
  match i with
  | 0 => 
   simp only [List.getElem?_cons_zero,sJ] at hv; subst hv
   have:(#[Value.func (.yield l) #[] #[]] ++ caps).getD 0 undef = .func (.yield l) #[] #[] := by rw [getD_of_list]; simp
   rw [this]; exact .yld l
  | i + 1 =>
   simp only [List.getElem?_cons_succ,List.getElem?_map] at hv
   cases he:cap[i]? with
   | none => simp [he] at hv
   | some e =>
    simp only [he,Option.map_some,sJ] at hv; subst hv
    have:(#[Value.func (.yield l) #[] #[]] ++ caps).getD (i + 1) undef = caps.getD i undef := by
     rw [getD_of_list,getD_of_list]; simp
    rw [this,hp i e he]
    exact .ipt e (b i) (o i) (cell i) (hs i e he) (fun j x hx => h1 i j e x he hx) (fun j x hx => h2 i j e x he hx)

omit [Laid] in
theorem Keeps.refl (S:Nat→Prop) (w:World):Keeps S w w := ⟨rfl,rfl,rfl,Nat.le_refl _,fun _ _ => rfl⟩
end
end Go.Mx
