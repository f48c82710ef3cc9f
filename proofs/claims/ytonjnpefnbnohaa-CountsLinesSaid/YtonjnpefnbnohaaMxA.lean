/- Abstract values and their relation to the model's values and worlds: a frame's own memory is one slot for each place that makes memory, with a version; what is immutable is plain data. -/
import Derived.RangeFuncIn
import Derived.CallsIn
import Derived.OrdersIn
import Derived.Laws.Sem
import Derived.Laws.World
import Derived.Laws.Entries
import Derived.Laws.AppendOwn
import Derived.Below
namespace Go.Mx
open Go.RowKit

inductive Pv where
  | int (k : IntKind) (n : Int)
  | bool (b : Bool)
  | str (s : ByteArray)
  | sl (k : Nat) (es : List (List Pv)) (full : Bool)
  | fn (f : FuncId) (cap : List (List Pv))

inductive V where
  | p (x : Pv)
  | agg (cs : List V)
  | tup (vs : List V)
  | ptr (t ver o : Nat)
  | ipt (cs : List Pv)
  | ref (t ver o n k : Nat)
  | clo (f : FuncId) (cap : List V)
  | opt (b : Bool) (v : V)
  | und
  | no

instance : Inhabited Pv := ⟨.bool false⟩
instance : Inhabited V := ⟨.und⟩

inductive PRel (S : Nat → Prop) (w : World) : Pv → Value → Prop
  | int (k n) : PRel S w (.int k n) (.int k n)
  | bool (b) : PRel S w (.bool b) (.bool b)
  | str (s) : PRel S w (.str s) (.string s)
  | slnil (k full) : PRel S w (.sl k [] full) (.slice none 0 0)
  | sl0 (k full a cap) (h : full = true → cap = 0) : PRel S w (.sl k [] full) (.slice (some a) 0 cap)
  | sl (k es full b o n cap) (cell : Nat → Nat → Value) (hs : S b) (hn : es.length = n) (h0 : 0 < n) (hc : n ≤ cap) (hf : full = true → cap = n)
      (hk : ∀ e ∈ es, e.length = k)
      (h1 : ∀ i j e x, es[i]? = some e → e[j]? = some x → w.cell? ⟨b, o + (i * k + j), none⟩ = some (cell i j))
      (h2 : ∀ i j e x, es[i]? = some e → e[j]? = some x → PRel S w x (cell i j)) : PRel S w (.sl k es full) (.slice (some ⟨b, o, none⟩) n cap)
  | fn (f cap caps) (b o : Nat → Nat) (cell : Nat → Nat → Value) (hn : caps.size = cap.length) (hs : ∀ i e, cap[i]? = some e → S (b i))
      (hp : ∀ i e, cap[i]? = some e → caps.getD i undef = .pointer (some ⟨b i, o i, none⟩))
      (h1 : ∀ i j e x, cap[i]? = some e → e[j]? = some x → w.cell? ⟨b i, o i + j, none⟩ = some (cell i j))
      (h2 : ∀ i j e x, cap[i]? = some e → e[j]? = some x → PRel S w x (cell i j)) : PRel S w (.fn f cap) (.func (.func f) #[] caps)

theorem PRel.cellOne {S : Nat → Prop} {w : World} {x : Pv} {v : Value} (h : PRel S w x v) : v.oneCell' = true := by
  cases h <;> rfl

theorem cell_block {w w' : World} {a : Addr} (h : w'.heap[a.block]? = w.heap[a.block]?) : w'.cell? a = w.cell? a := by
  simp only [World.cell?, h]

theorem PRel.mono {S S' : Nat → Prop} {w w' : World} {x : Pv} {v : Value} (h : PRel S w x v) (hS : ∀ b, S b → S' b) (hw : ∀ b, S b → w'.heap[b]? = w.heap[b]?) : PRel S' w' x v := by
  induction h with
  | int k n => exact .int k n
  | bool b => exact .bool b
  | str s => exact .str s
  | slnil k full => exact .slnil k full
  | sl0 k full a cap h => exact .sl0 k full a cap h
  | sl k es full b o n cap cell hs hn h0 hc hf hk h1 h2 ih =>
    exact .sl k es full b o n cap cell (hS _ hs) hn h0 hc hf hk (fun i j e x he hx => (cell_block (hw _ hs)).trans (h1 i j e x he hx)) ih
  | fn f cap caps b o cell hn hs hp h1 h2 ih =>
    exact .fn f cap caps b o cell hn (fun i e he => hS _ (hs i e he)) hp (fun i j e x he hx => (cell_block (hw _ (hs i e he))).trans (h1 i j e x he hx)) ih

inductive Pl where
  | virgin
  | blk (c sz : Nat)

abbrev Plc := Nat → Nat → Option Pl

inductive VRel (Φ : Plc) (S : Nat → Prop) (w : World) : V → Value → Prop
  | p (x v) (h : PRel S w x v) : VRel Φ S w (.p x) v
  | agg (cs : List V) (arr : Array Value) (hn : arr.size = cs.length) (h : ∀ i c, cs[i]? = some c → VRel Φ S w c (arr.getD i undef)) : VRel Φ S w (.agg cs) (.agg arr)
  | tup (cs : List V) (arr : Array Value) (hn : arr.size = cs.length) (h : ∀ i c, cs[i]? = some c → VRel Φ S w c (arr.getD i undef)) : VRel Φ S w (.tup cs) (.tuple arr)
  | ptr (t ver o c sz) (h : Φ t ver = some (.blk c sz)) : VRel Φ S w (.ptr t ver o) (.pointer (some ⟨c, o, none⟩))
  | ipt (cs : List Pv) (b o) (cell : Nat → Value) (hs : S b) (h1 : ∀ j x, cs[j]? = some x → w.cell? ⟨b, o + j, none⟩ = some (cell j))
      (h2 : ∀ j x, cs[j]? = some x → PRel S w x (cell j)) : VRel Φ S w (.ipt cs) (.pointer (some ⟨b, o, none⟩))
  | ref (t ver o n k c sz cap) (h : Φ t ver = some (.blk c sz)) (hn : n ≤ cap) (hc : o + cap * k ≤ sz) : VRel Φ S w (.ref t ver o n k) (.slice (some ⟨c, o, none⟩) n cap)
  | refv (t ver k a) (h : Φ t ver = some .virgin) : VRel Φ S w (.ref t ver 0 0 k) (.slice a 0 0)
  | clo (f cap caps) (hn : caps.size = cap.length) (h : ∀ i c, cap[i]? = some c → VRel Φ S w c (caps.getD i undef)) : VRel Φ S w (.clo f cap) (.func (.func f) #[] caps)
  | opt (b v x) (h : b = true → VRel Φ S w v x) : VRel Φ S w (.opt b v) x
  | und (v) : VRel Φ S w .und v
  | no : VRel Φ S w .no undef

theorem VRel.mono {Φ Φ' : Plc} {S S' : Nat → Prop} {w w' : World} {x : V} {v : Value} (h : VRel Φ S w x v) (hΦ : ∀ t k p, Φ t k = some p → Φ' t k = some p)
    (hS : ∀ b, S b → S' b) (hw : ∀ b, S b → w'.heap[b]? = w.heap[b]?) : VRel Φ' S' w' x v := by
  induction h with
  | p x v h => exact .p x v (h.mono hS hw)
  | agg cs arr hn h ih => exact .agg cs arr hn ih
  | tup cs arr hn h ih => exact .tup cs arr hn ih
  | ptr t ver o c sz h => exact .ptr t ver o c sz (hΦ _ _ _ h)
  | ipt cs b o cell hs h1 h2 => exact .ipt cs b o cell (hS _ hs) (fun j x hx => (cell_block (hw _ hs)).trans (h1 j x hx)) (fun j x hx => (h2 j x hx).mono hS hw)
  | ref t ver o n k c sz cap h hn hc => exact .ref t ver o n k c sz cap (hΦ _ _ _ h) hn hc
  | refv t ver k a h => exact .refv t ver k a (hΦ _ _ _ h)
  | clo f cap caps hn h ih => exact .clo f cap caps hn ih
  | opt b v x h ih => exact .opt b v x ih
  | und v => exact .und v
  | no => exact .no

inductive BSt where
  | dead | live | frozen

structure Blk where
  ver : Nat
  st : BSt
  cs : List V

structure St where
  ts : List V
  hp : List Blk

def BRel (m : Nat) (Φ : Plc) (S Jo : Nat → Prop) (w0 w : World) (t : Nat) (b : Blk) : Prop :=
  match b.st with
  | .dead => True
  | .live => (Φ t b.ver = some .virgin ∧ b.cs = []) ∨ ∃ c sz arr ty, Φ t b.ver = some (.blk c sz) ∧ w.heap[c]? = some (.cells arr ty (0, 0)) ∧ arr.size = sz ∧ b.cs.length ≤ sz ∧
      (∀ i x, b.cs[i]? = some x → VRel Φ S w x (arr.getD i undef)) ∧ ¬ S c ∧ ((t < m ∧ Jo c) ∨ w0.heap.size ≤ c)
  | .frozen => (Φ t b.ver = some .virgin ∧ b.cs = []) ∨ ∃ c sz, Φ t b.ver = some (.blk c sz) ∧ S c ∧
      ∃ arr ty fz, w.heap[c]? = some (.cells arr ty fz) ∧ (arr.size = sz ∧ b.cs.length ≤ sz) ∧ (∀ i x, b.cs[i]? = some x → VRel Φ S w x (arr.getD i undef))

structure Fr (Jo : Nat → Prop) (w0 w : World) : Prop where
  os : w.os = w0.os
  tape : w.tape = w0.tape
  output : w.output = w0.output
  size : w0.heap.size ≤ w.heap.size
  block : ∀ b, b < w0.heap.size → ¬ Jo b → w.heap[b]? = w0.heap[b]?

theorem Fr.refl (Jo : Nat → Prop) (w : World) : Fr Jo w w := ⟨rfl, rfl, rfl, Nat.le_refl _, fun _ _ _ => rfl⟩
theorem Fr.below {w0 w : World} (h : Fr (fun _ => False) w0 w) : Below w0.heap.size w0 w := ⟨h.os, h.tape, h.output, h.size, fun b hb => h.block b hb (fun e => e)⟩

structure Sim (m : Nat) (w0 : World) (S0 Jo : Nat → Prop) (D : List Deferred) (Φ : Plc) (S : Nat → Prop) (st : St) (a : Act) (w : World) : Prop where
  defers : a.defers = D
  size : a.tmps.size = st.ts.length
  ts : ∀ t v, st.ts[t]? = some v → VRel Φ S w v (a.tmps.getD t undef)
  hp : ∀ t b, st.hp[t]? = some b → BRel m Φ S Jo w0 w t b
  fresh : ∀ t b ver, st.hp[t]? = some b → b.ver < ver → Φ t ver = none
  inj : ∀ t t' b b' c sz c' sz', st.hp[t]? = some b → st.hp[t']? = some b' → b.st = .live → b'.st = .live → Φ t b.ver = some (.blk c sz) → Φ t' b'.ver = some (.blk c' sz') → t ≠ t' → c ≠ c'
  Slt : ∀ b, S b → b < w.heap.size
  Sold : ∀ b, S0 b → S b
  Snew : ∀ b, S b → S0 b ∨ w0.heap.size ≤ b
  frame : Fr Jo w0 w
  io : ∀ t, t < m → ∃ c sz, Φ t 0 = some (.blk c sz) ∧ Jo c ∧ ∀ arr ty fz, w0.heap[c]? = some (.cells arr ty fz) → arr.size = sz

section
variable {m : Nat} {w0 : World} {S0 Jo : Nat → Prop} {D : List Deferred} {Φ : Plc} {S : Nat → Prop} {st : St} {a : Act} {w : World}

theorem getD_set {arr : Array Value} {d t : Nat} {x : Value} : (arr.setIfInBounds d x).getD t undef = if d = t ∧ t < arr.size then x else arr.getD t undef := by
  by_cases h : t < arr.size
  · simp only [Array.getD, Array.size_setIfInBounds, h, dif_pos, and_true]
    by_cases e : d = t
    · subst e; simp
    · simp only [e, if_false]; exact Array.getElem_setIfInBounds_ne (by simpa using h) e
  · simp [Array.getD, h]

def St.put (st : St) (d : Option Nat) (v : V) : St := match d with | some d => { st with ts := st.ts.set d v } | none => st

theorem Sim.put (h : Sim m w0 S0 Jo D Φ S st a w) {d : Option Nat} {v : V} {x : Value} (hv : VRel Φ S w v x) : Sim m w0 S0 Jo D Φ S (st.put d v) (a.put d x) w := by
  cases d with
  | none => exact h
  | some d =>
    refine ⟨h.defers, by simp [St.put, Act.put, h.size], ?_, h.hp, h.fresh, h.inj, h.Slt, h.Sold, h.Snew, h.frame, h.io⟩
    intro t u hu
    simp only [St.put, Act.put] at hu ⊢
    rw [getD_set]
    rw [List.getElem?_set] at hu
    by_cases e : d = t
    · subst e
      by_cases hlt : d < st.ts.length
      · simp [hlt] at hu; subst hu
        rw [if_pos ⟨rfl, by rw [h.size]; exact hlt⟩]; exact hv
      · simp [hlt] at hu
    · rw [if_neg e] at hu
      rw [if_neg (fun hh => e hh.1)]
      exact h.ts t u hu

theorem Sim.grow (h : Sim m w0 S0 Jo D Φ S st a w) {S' : Nat → Prop} {w' : World} (ho : w'.os = w.os) (ht : w'.tape = w.tape) (hp : w'.output = w.output) (hs : w.heap.size ≤ w'.heap.size)
    (hb : ∀ b, b < w.heap.size → w'.heap[b]? = w.heap[b]?) (hS : ∀ b, S b → S' b) (hS2 : ∀ b, S' b → S b ∨ w.heap.size ≤ b) (hS3 : ∀ b, S' b → b < w'.heap.size) :
    Sim m w0 S0 Jo D Φ S' st a w' := by
  have hw : ∀ b, S b → w'.heap[b]? = w.heap[b]? := fun b h' => hb b (h.Slt b h')
  have hlt : ∀ c o, w.heap[c]? = some o → c < w.heap.size := fun c o e => (Array.getElem?_eq_some_iff.1 e).1
  refine ⟨h.defers, h.size, fun t v hv => (h.ts t v hv).mono (fun _ _ _ e => e) hS hw, ?_, h.fresh, h.inj, hS3, fun b hb' => hS b (h.Sold b hb'), ?_, ?_, h.io⟩
  · intro t b hb'
    have hB := h.hp t b hb'
    unfold BRel at hB ⊢
    split at hB
    · trivial
    · rcases hB with hB | ⟨c, sz, arr, ty, h1, h2, h3, h4, h5, h6, h7⟩
      · exact .inl hB
      · refine .inr ⟨c, sz, arr, ty, h1, (hb c (hlt _ _ h2)).trans h2, h3, h4, fun i x hx => (h5 i x hx).mono (fun _ _ _ e => e) hS hw, ?_, h7⟩
        intro hc
        rcases hS2 c hc with hc | hc
        · exact h6 hc
        · have := hlt _ _ h2; omega
    · rcases hB with hB | ⟨c, sz, h1, h2, arr, ty, fz, h3, h4, h5⟩
      · exact .inl hB
      · exact .inr ⟨c, sz, h1, hS c h2, arr, ty, fz, (hb c (hlt _ _ h3)).trans h3, h4, fun i x hx => (h5 i x hx).mono (fun _ _ _ e => e) hS hw⟩
  · intro b hb'
    rcases hS2 b hb' with h' | h'
    · exact h.Snew b h'
    · exact .inr (Nat.le_trans h.frame.size h')
  · exact ⟨ho.trans h.frame.os, ht.trans h.frame.tape, hp.trans h.frame.output, Nat.le_trans h.frame.size hs, fun b hb' hio => (hb b (Nat.lt_of_lt_of_le hb' h.frame.size)).trans (h.frame.block b hb' hio)⟩

theorem Sim.drew (h : Sim m w0 S0 Jo D Φ S st a w) (n : Nat) : Sim m w0 S0 Jo D Φ S st a { w with drawn := n } :=
  h.grow rfl rfl rfl (Nat.le_refl _) (fun _ _ => rfl) (fun _ e => e) (fun _ e => .inl e) h.Slt

theorem Sim.new (h : Sim m w0 S0 Jo D Φ S st a w) {t : Nat} {b : Blk} (hb : st.hp[t]? = some b) {arr : Array Value} {ty : TypeId} {cs : List V} (hn : cs.length ≤ arr.size)
    (hc : ∀ i x, cs[i]? = some x → VRel Φ S w x (arr.getD i undef)) :
    ∃ Φ', (∀ t k p, Φ t k = some p → Φ' t k = some p) ∧ Φ' t (b.ver + 1) = some (.blk w.heap.size arr.size) ∧
      Sim m w0 S0 Jo D Φ' S { st with hp := st.hp.set t ⟨b.ver + 1, .live, cs⟩ } a (w.alloc (.cells arr ty)) := by
  have h1 : Sim m w0 S0 Jo D Φ S st a (w.alloc (.cells arr ty)) :=
    h.grow rfl rfl rfl (by simp) (fun b hb => Below.heap_alloc w _ b hb) (fun _ e => e) (fun _ e => .inl e) (fun b hb => by have := h.Slt b hb; simp; omega)
  let Φ' : Plc := fun t' k => if t' = t ∧ k = b.ver + 1 then some (.blk w.heap.size arr.size) else Φ t' k
  have hΦ : ∀ t k p, Φ t k = some p → Φ' t k = some p := by
    intro t' k p hp
    simp only [Φ']
    split
    · rename_i e; obtain ⟨rfl, rfl⟩ := e
      rw [h.fresh _ b _ hb (Nat.lt_succ_self _)] at hp; cases hp
    · exact hp
  have hΦt : Φ' t (b.ver + 1) = some (.blk w.heap.size arr.size) := by simp [Φ']
  have hne : ∀ t' k, t' ≠ t → Φ' t' k = Φ t' k := fun t' k e => by simp [Φ', e]
  have hSw : ∀ b, S b → (w.alloc (Obj.cells arr ty)).heap[b]? = w.heap[b]? := fun b hb => Below.heap_alloc w _ b (h.Slt b hb)
  have hget : ∀ t' b', (st.hp.set t ⟨b.ver + 1, .live, cs⟩)[t']? = some b' → (t' = t ∧ b' = ⟨b.ver + 1, .live, cs⟩) ∨ (t' ≠ t ∧ st.hp[t']? = some b') := by
    intro t' b' e
    rw [List.getElem?_set] at e
    by_cases e' : t = t'
    · subst e'
      rw [if_pos rfl] at e
      split at e
      · left; exact ⟨rfl, by simpa using e.symm⟩
      · cases e
    · rw [if_neg e'] at e; exact .inr ⟨fun x => e' x.symm, e⟩
  refine ⟨Φ', hΦ, hΦt, ⟨h1.defers, h1.size, fun t v hv => (h1.ts t v hv).mono hΦ (fun _ e => e) (fun _ _ => rfl), ?_, ?_, ?_, h1.Slt, h1.Sold, h1.Snew, h1.frame, fun t' hm => by obtain ⟨c', sz', q1, q2⟩ := h1.io t' hm; exact ⟨c', sz', by simpa [Φ'] using q1, q2⟩⟩⟩
  · intro t' b' hb'
    rcases hget t' b' hb' with ⟨rfl, rfl⟩ | ⟨hne', hb'⟩
    · unfold BRel
      refine .inr ⟨w.heap.size, arr.size, arr, ty, hΦt, ?_, rfl, hn, fun i x hx => (hc i x hx).mono hΦ (fun _ e => e) hSw, ?_, .inr h.frame.size⟩
      · exact heap_alloc_new w _
      · intro hs; exact Nat.lt_irrefl _ (h.Slt _ hs)
    · have hB := h1.hp t' b' hb'
      unfold BRel at hB ⊢
      split at hB
      · trivial
      · rcases hB with hB | ⟨c, sz, arr', ty', k1, k2, k3, k4, k5, k6, k7⟩
        · exact .inl ⟨by rw [hne _ _ hne']; exact hB.1, hB.2⟩
        · exact .inr ⟨c, sz, arr', ty', by rw [hne _ _ hne']; exact k1, k2, k3, k4, fun i x hx => (k5 i x hx).mono hΦ (fun _ e => e) (fun _ _ => rfl), k6, k7⟩
      · rcases hB with hB | ⟨c, sz, k1, k2, arr', ty', fz, k3, k4, k5⟩
        · exact .inl ⟨by rw [hne _ _ hne']; exact hB.1, hB.2⟩
        · exact .inr ⟨c, sz, by rw [hne _ _ hne']; exact k1, k2, arr', ty', fz, k3, k4, fun i x hx => (k5 i x hx).mono hΦ (fun _ e => e) (fun _ _ => rfl)⟩
  · intro t' b' ver hb' hv
    rcases hget t' b' hb' with ⟨rfl, rfl⟩ | ⟨hne', hb'⟩
    · simp only [Φ']
      dsimp only at hv
      rw [if_neg (by omega)]
      exact h.fresh _ b _ hb (by omega)
    · rw [hne _ _ hne']; exact h.fresh _ b' _ hb' hv
  · intro t1 t2 b1 b2 c1 s1 c2 s2 g1 g2 l1 l2 p1 p2 hne12
    dsimp only at g1 g2
    have old : ∀ t' b' c sz, st.hp[t']? = some b' → b'.st = .live → Φ t' b'.ver = some (.blk c sz) → c < w.heap.size := by
      intro t' b' c sz g l p
      have hB := h.hp t' b' g
      unfold BRel at hB
      rw [l] at hB
      rcases hB with ⟨hB, _⟩ | ⟨c', sz', arr', ty', k1, k2, _⟩
      · rw [hB] at p; cases p
      · rw [k1] at p; injection p with p; injection p with p1 p2
        subst p1
        exact (Array.getElem?_eq_some_iff.1 k2).1
    rcases hget t1 b1 g1 with ⟨e1, rfl⟩ | ⟨n1, k1⟩
    · rcases hget t2 b2 g2 with ⟨e2, rfl⟩ | ⟨n2, k2⟩
      · exact absurd (e1.trans e2.symm) hne12
      · subst e1
        rw [hΦt] at p1; injection p1 with p1; injection p1 with p1 _
        rw [hne _ _ n2] at p2
        have := old _ _ _ _ k2 l2 p2
        omega
    · rw [hne _ _ n1] at p1
      rcases hget t2 b2 g2 with ⟨e2, rfl⟩ | ⟨n2, k2⟩
      · subst e2
        rw [hΦt] at p2; injection p2 with p2; injection p2 with p2 _
        have := old _ _ _ _ k1 l1 p1
        omega
      · rw [hne _ _ n2] at p2
        exact h.inj _ _ _ _ _ _ _ _ k1 k2 l1 l2 p1 p2 hne12
end
end Go.Mx
