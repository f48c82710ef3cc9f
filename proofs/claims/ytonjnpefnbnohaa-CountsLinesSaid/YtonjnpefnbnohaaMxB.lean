/- Stores, loads and the freezing of a frame's own memory. -/
import Derived.Test.YtonjnpefnbnohaaMxA
namespace Go.Mx
open Go.RowKit

section
variable {m : Nat} {w0 : World} {S0 Jo : Nat → Prop} {D : List Deferred} {Φ : Plc} {S : Nat → Prop} {st : St} {a : Act} {w : World}

def wr {α : Type} : List α → Nat → List α → List α
  | cs, _, [] => cs
  | cs, o, v :: vs => wr (cs.set o v) (o + 1) vs

theorem wr_length {α : Type} : ∀ (vs : List α) (cs : List α) (o : Nat), (wr cs o vs).length = cs.length
  | [], _, _ => rfl
  | v :: vs, cs, o => by rw [wr, wr_length vs]; simp

theorem wr_get {α : Type} : ∀ (vs : List α) (cs : List α) (o i : Nat) (x : α), (wr cs o vs)[i]? = some x → (o ≤ i ∧ vs[i - o]? = some x) ∨ ((i < o ∨ o + vs.length ≤ i) ∧ cs[i]? = some x)
  | [], cs, o, i, x, h => by
    right
    refine ⟨?_, h⟩
    simp; omega
  | v :: vs, cs, o, i, x, h => by
    rw [wr] at h
    rcases wr_get vs _ _ i x h with ⟨h1, h2⟩ | ⟨h1, h2⟩
    · left
      refine ⟨by omega, ?_⟩
      have e : i - o = (i - (o + 1)) + 1 := by omega
      rw [e]; simpa using h2
    · rw [List.getElem?_set] at h2
      by_cases e : o = i
      · subst e
        rw [if_pos rfl] at h2
        split at h2
        · left; exact ⟨Nat.le_refl _, by simpa using h2⟩
        · cases h2
      · rw [if_neg e] at h2
        right
        refine ⟨?_, h2⟩
        simp only [List.length_cons]
        omega

structure Only (c : Nat) (w w' : World) : Prop where
  os : w'.os = w.os
  tape : w'.tape = w.tape
  output : w'.output = w.output
  size : w'.heap.size = w.heap.size
  block : ∀ b, b ≠ c → w'.heap[b]? = w.heap[b]?

theorem heap_setCell_same {w : World} {c o : Nat} {arr : Array Value} {ty : TypeId} {f : Nat × Nat} (h : w.heap[c]? = some (.cells arr ty f)) (v : Value) :
    (w.setCell ⟨c, o, none⟩ v).heap[c]? = some (.cells (arr.setIfInBounds o v) ty f) := by
  simp [World.setCell, Array.getElem?_modify, h]

theorem run_storeCells (P : Program) {c o : Nat} {ty : TypeId} : ∀ (vs : List Value) (i : Nat) (w : World) (arr : Array Value), w.heap[c]? = some (.cells arr ty (0, 0)) → (∀ v ∈ vs, v.oneCell' = true) →
    o + i + vs.length ≤ arr.size →
    ∃ w' arr', (storeCells ⟨c, o, none⟩ vs i).run P w = .ok () w' ∧ Only c w w' ∧ w'.heap[c]? = some (.cells arr' ty (0, 0)) ∧ arr'.size = arr.size ∧
      ∀ j, arr'.getD j undef = if o + i ≤ j ∧ j < o + i + vs.length then vs.getD (j - (o + i)) undef else arr.getD j undef
  | [], i, w, arr, h, _, _ => ⟨w, arr, rfl, ⟨rfl, rfl, rfl, rfl, fun _ _ => rfl⟩, h, rfl, fun j => by rw [if_neg (by simp only [List.length_nil]; omega)]⟩
  | v :: vs, i, w, arr, h, h1, hn => by
    simp only [List.length_cons] at hn
    have ha : (⟨c, o, none⟩ : Addr).add i = ⟨c, o + i, none⟩ := by simp only [Addr.add]; split <;> simp_all
    have hcell : w.cell? ⟨c, o + i, none⟩ = some (arr.getD (o + i) undef) := by
      simp [World.cell?, h, Array.getD, show o + i < arr.size by omega]
    have hfz : w.frozen? ⟨c, o + i, none⟩ = false := by simp [World.frozen?, h]
    have hs := heap_setCell_same (o := o + i) h v
    obtain ⟨w', arr', hrun, ho, hb, hsz, hg⟩ := run_storeCells P (c := c) (o := o) (ty := ty) vs (i + 1) (w.setCell ⟨c, o + i, none⟩ v) (arr.setIfInBounds (o + i) v) hs
      (fun u hu => h1 u (by simp [hu])) (by simp; omega)
    refine ⟨w', arr', ?_, ?_, hb, by simpa using hsz, ?_⟩
    · simp only [storeCells, Sem.run_bind, ha, run_store P w _ v _ (h1 v (by simp)), hcell, hfz]
      simpa using hrun
    · refine ⟨ho.os, ho.tape, ho.output, by rw [ho.size]; simp, fun b hb' => (ho.block b hb').trans (Below.heap_setCell w _ _ b hb')⟩
    · intro j
      rw [hg j, getD_set]
      by_cases e : o + i = j
      · subst e
        rw [if_neg (by omega), if_pos ⟨rfl, by omega⟩, if_pos (by simp)]
        simp
      · by_cases e2 : o + (i + 1) ≤ j ∧ j < o + (i + 1) + vs.length
        · rw [if_pos e2, if_pos (by simp only [List.length_cons]; omega)]
          have : j - (o + i) = (j - (o + (i + 1))) + 1 := by omega
          rw [this]; simp
        · rw [if_neg e2, if_neg (fun hh => e hh.1), if_neg (by simp only [List.length_cons]; omega)]

theorem live_of {t : Nat} {b : Blk} (h : Sim m w0 S0 Jo D Φ S st a w) (hb : st.hp[t]? = some b) (hl : b.st = .live) {c sz : Nat} (hp : Φ t b.ver = some (.blk c sz)) :
    ∃ arr ty, w.heap[c]? = some (.cells arr ty (0, 0)) ∧ arr.size = sz ∧ b.cs.length ≤ sz ∧ (∀ i x, b.cs[i]? = some x → VRel Φ S w x (arr.getD i undef)) ∧ ¬ S c ∧ ((t < m ∧ Jo c) ∨ w0.heap.size ≤ c) := by
  have hB := h.hp t b hb
  unfold BRel at hB
  rw [hl] at hB
  rcases hB with ⟨hB, _⟩ | ⟨c', sz', arr, ty, k1, k2, k3, k4, k5, k6, k7⟩
  · rw [hB] at hp; cases hp
  · rw [k1] at hp; injection hp with hp; injection hp with e1 e2
    subst e1 e2
    exact ⟨arr, ty, k2, k3, k4, k5, k6, k7⟩

theorem Sim.turn (h : Sim m w0 S0 Jo D Φ S st a w) {t : Nat} {b : Blk} (hb : st.hp[t]? = some b) (hl : b.st = .live) {c sz : Nat} (hp : Φ t b.ver = some (.blk c sz))
    {w' : World} (ho : Only c w w') {arr' : Array Value} {ty' : TypeId} (hh : w'.heap[c]? = some (.cells arr' ty' (0, 0))) (hs : arr'.size = sz) {cs' : List V} (hn : cs'.length ≤ sz)
    (hc : ∀ i x, cs'[i]? = some x → VRel Φ S w x (arr'.getD i undef)) : Sim m w0 S0 Jo D Φ S { st with hp := st.hp.set t ⟨b.ver, .live, cs'⟩ } a w' := by
  obtain ⟨arr, ty, k2, k3, k4, k5, k6, k7⟩ := live_of h hb hl hp
  have hSw : ∀ b, S b → w'.heap[b]? = w.heap[b]? := fun b hb => ho.block b (fun e => k6 (e ▸ hb))
  have hget : ∀ t' b', (st.hp.set t ⟨b.ver, .live, cs'⟩)[t']? = some b' → (t' = t ∧ b' = ⟨b.ver, .live, cs'⟩) ∨ (t' ≠ t ∧ st.hp[t']? = some b') := by
    intro t' b' e
    rw [List.getElem?_set] at e
    by_cases e' : t = t'
    · subst e'
      rw [if_pos rfl] at e
      split at e
      · left; exact ⟨rfl, by simpa using e.symm⟩
      · cases e
    · rw [if_neg e'] at e; exact .inr ⟨fun x => e' x.symm, e⟩
  refine ⟨h.defers, h.size, fun t v hv => (h.ts t v hv).mono (fun _ _ _ e => e) (fun _ e => e) hSw, ?_, ?_, ?_, fun b hb => by rw [ho.size]; exact h.Slt b hb, h.Sold, h.Snew, ?_, h.io⟩
  · intro t' b' hb'
    rcases hget t' b' hb' with ⟨rfl, rfl⟩ | ⟨hne', hb'⟩
    · unfold BRel
      exact .inr ⟨c, sz, arr', ty', hp, hh, hs, hn, fun i x hx => (hc i x hx).mono (fun _ _ _ e => e) (fun _ e => e) hSw, k6, k7⟩
    · have hB := h.hp t' b' hb'
      unfold BRel at hB ⊢
      split at hB
      · trivial
      · rename_i hl'
        rcases hB with hB | ⟨c', sz', arr2, ty2, q1, q2, q3, q4, q5, q6, q7⟩
        · exact .inl hB
        · refine .inr ⟨c', sz', arr2, ty2, q1, ?_, q3, q4, fun i x hx => (q5 i x hx).mono (fun _ _ _ e => e) (fun _ e => e) hSw, q6, q7⟩
          rw [ho.block c' (h.inj _ _ _ _ _ _ _ _ hb' hb hl' hl q1 hp hne')]; exact q2
      · rcases hB with hB | ⟨c', sz', q1, q2, arr2, ty2, fz, q3, q4, q5⟩
        · exact .inl hB
        · exact .inr ⟨c', sz', q1, q2, arr2, ty2, fz, by rw [hSw c' q2]; exact q3, q4, fun i x hx => (q5 i x hx).mono (fun _ _ _ e => e) (fun _ e => e) hSw⟩
  · intro t' b' ver hb' hv
    rcases hget t' b' hb' with ⟨rfl, rfl⟩ | ⟨hne', hb'⟩
    · exact h.fresh _ b _ hb hv
    · exact h.fresh _ b' _ hb' hv
  · intro t1 t2 b1 b2 c1 s1 c2 s2 g1 g2 l1 l2 p1 p2 hne12
    rcases hget t1 b1 g1 with ⟨e1, rfl⟩ | ⟨n1, q1⟩
    · rcases hget t2 b2 g2 with ⟨e2, rfl⟩ | ⟨n2, q2⟩
      · exact absurd (e1.trans e2.symm) hne12
      · subst e1
        exact h.inj _ _ _ _ _ _ _ _ hb q2 hl l2 p1 p2 hne12
    · rcases hget t2 b2 g2 with ⟨e2, rfl⟩ | ⟨n2, q2⟩
      · subst e2
        exact h.inj _ _ _ _ _ _ _ _ q1 hb l1 hl p1 p2 hne12
      · exact h.inj _ _ _ _ _ _ _ _ q1 q2 l1 l2 p1 p2 hne12
  · have hf := h.frame
    refine ⟨ho.os.trans hf.os, ho.tape.trans hf.tape, ho.output.trans hf.output, by rw [ho.size]; exact hf.size, fun b hb' hio => ?_⟩
    rw [ho.block b (fun e => by subst e; first | (rcases k7 with k7 | k7 <;> first | exact hio k7.2 | omega))]
    exact hf.block b hb' hio

theorem Sim.freeze (h : Sim m w0 S0 Jo D Φ S st a w) {t : Nat} {b : Blk} (hb : st.hp[t]? = some b) (hl : b.st = .live) (ht : m ≤ t) :
    ∃ S', (∀ b, S b → S' b) ∧ (∀ c sz, Φ t b.ver = some (.blk c sz) → S' c) ∧ Sim m w0 S0 Jo D Φ S' { st with hp := st.hp.set t ⟨b.ver, .frozen, b.cs⟩ } a w := by
  have hget : ∀ t' b', (st.hp.set t ⟨b.ver, .frozen, b.cs⟩)[t']? = some b' → (t' = t ∧ b' = ⟨b.ver, .frozen, b.cs⟩) ∨ (t' ≠ t ∧ st.hp[t']? = some b') := by
    intro t' b' e
    rw [List.getElem?_set] at e
    by_cases e' : t = t'
    · subst e'
      rw [if_pos rfl] at e
      split at e
      · left; exact ⟨rfl, by simpa using e.symm⟩
      · cases e
    · rw [if_neg e'] at e; exact .inr ⟨fun x => e' x.symm, e⟩
  let S' : Nat → Prop := fun c => S c ∨ ∃ sz, Φ t b.ver = some (.blk c sz)
  have hS' : ∀ b, S b → S' b := fun b hb => .inl hb
  refine ⟨S', hS', fun c sz hc => .inr ⟨sz, hc⟩, ⟨h.defers, h.size, fun t v hv => (h.ts t v hv).mono (fun _ _ _ e => e) hS' (fun _ _ => ?_), ?_, ?_, ?_, ?_, fun b hb => hS' b (h.Sold b hb), ?_, h.frame, h.io⟩⟩
  · rfl
  · intro t' b' hb'
    rcases hget t' b' hb' with ⟨rfl, rfl⟩ | ⟨hne', hb'⟩
    · unfold BRel
      have hB := h.hp t' b hb
      unfold BRel at hB
      rw [hl] at hB
      rcases hB with hB | ⟨c, sz, arr, ty, k1, k2, k3, k4, k5, k6, k7⟩
      · exact .inl hB
      · exact .inr ⟨c, sz, k1, .inr ⟨sz, k1⟩, arr, ty, (0, 0), k2, ⟨k3, k4⟩, fun i x hx => (k5 i x hx).mono (fun _ _ _ e => e) hS' (fun _ _ => rfl)⟩
    · have hB := h.hp t' b' hb'
      unfold BRel at hB ⊢
      split at hB
      · trivial
      · rename_i hl'
        rcases hB with hB | ⟨c', sz', arr2, ty2, q1, q2, q3, q4, q5, q6, q7⟩
        · exact .inl hB
        · refine .inr ⟨c', sz', arr2, ty2, q1, q2, q3, q4, fun i x hx => (q5 i x hx).mono (fun _ _ _ e => e) hS' (fun _ _ => rfl), ?_, q7⟩
          rintro (hc | ⟨sz, hc⟩)
          · exact q6 hc
          · exact h.inj _ _ _ _ _ _ _ _ hb' hb hl' hl q1 hc hne' rfl
      · rcases hB with hB | ⟨c', sz', q1, q2, arr2, ty2, fz, q3, q4, q5⟩
        · exact .inl hB
        · exact .inr ⟨c', sz', q1, .inl q2, arr2, ty2, fz, q3, q4, fun i x hx => (q5 i x hx).mono (fun _ _ _ e => e) hS' (fun _ _ => rfl)⟩
  · intro t' b' ver hb' hv
    rcases hget t' b' hb' with ⟨rfl, rfl⟩ | ⟨hne', hb'⟩
    · exact h.fresh _ b _ hb hv
    · exact h.fresh _ b' _ hb' hv
  · intro t1 t2 b1 b2 c1 s1 c2 s2 g1 g2 l1 l2 p1 p2 hne12
    rcases hget t1 b1 g1 with ⟨e1, rfl⟩ | ⟨n1, q1⟩
    · cases l1
    · rcases hget t2 b2 g2 with ⟨e2, rfl⟩ | ⟨n2, q2⟩
      · cases l2
      · exact h.inj _ _ _ _ _ _ _ _ q1 q2 l1 l2 p1 p2 hne12
  · rintro c (hc | ⟨sz, hc⟩)
    · exact h.Slt c hc
    · obtain ⟨arr, ty, k2, _⟩ := live_of h hb hl hc
      exact (Array.getElem?_eq_some_iff.1 k2).1
  · rintro c (hc | ⟨sz, hc⟩)
    · exact h.Snew c hc
    · obtain ⟨arr, ty, k2, k3, k4, k5, k6, k7⟩ := live_of h hb hl hc
      rcases k7 with k7 | k7
      · omega
      · exact .inr k7

theorem run_loadCells (P : Program) {c o : Nat} (f : Nat → Value) : ∀ (n i : Nat) (w : World) (acc : Array Value), (∀ j, j < n → w.cell? ⟨c, o + (i + j), none⟩ = some (f (i + j))) →
    (loadCellsFrom ⟨c, o, none⟩ i n acc).run P w = .ok (acc ++ ((List.range' i n).map f).toArray) w
  | 0, i, w, acc, _ => by simp [loadCellsFrom]
  | n + 1, i, w, acc, h => by
    have ha : (⟨c, o, none⟩ : Addr).add i = ⟨c, o + i, none⟩ := by simp only [Addr.add]; split <;> simp_all
    have h0 := h 0 (by omega)
    simp only [Nat.add_zero] at h0
    have ih := run_loadCells P (c := c) (o := o) f n (i + 1) w (acc.push (f i)) (fun j hj => by
      have := h (j + 1) (by omega)
      rw [show i + 1 + j = i + (j + 1) by omega]; exact this)
    simp only [loadCellsFrom, Sem.run_bind, run_load, ha, h0, Result.andThen_ok, ih]
    rw [List.range'_succ]
    simp
end
end Go.Mx
