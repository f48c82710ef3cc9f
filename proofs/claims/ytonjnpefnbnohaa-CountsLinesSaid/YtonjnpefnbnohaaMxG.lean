/- The same for sizes of types and reading and writing of places. No condition. -/
import Derived.Test.YtonjnpefnbnohaaMxF
namespace Go.Mx
open Go.RowKit

section
variable {P : Program} {m : Nat} {w0 : World} {S0 Jo : Nat → Prop} {D : List Deferred} {Φ : Plc} {S : Nat → Prop} {st : St} {a : Act} {w : World}

theorem places_list {w : World} : ∀ (l : List Field) (ps : List (Nat × Nat)), (l.mapM fun f => (sz? P f.type).map fun n => (f.offset, n)) = some ps →
    (l.mapM (m := Sem) fun f => do pure (f.offset, ← sizeOf f.type)).run P w = .ok ps w
  | [], ps, h => by
    simp only [List.mapM_nil, Option.pure_def, Option.some.injEq] at h
    subst h; rfl
  | f :: l, ps, h => by
    rw [List.mapM_cons] at h
    cases h1 : sz? P f.type with
    | none => simp [h1] at h
    | some n =>
      cases h2 : (l.mapM fun f => (sz? P f.type).map fun n => (f.offset, n)) with
      | none => simp [h1, h2] at h
      | some qs =>
        simp [h1, h2] at h
        subst h
        rw [List.mapM_cons]
        simp only [Sem.run_bind, sz_run h1, Sem.run_pure, Result.andThen_ok, places_list l qs h2]

theorem places_run {fields : Array Field} {ps : List (Nat × Nat)} (h : places P fields = some ps) (w : World) :
    (fields.mapM (m := Sem) fun f => do pure (f.offset, ← sizeOf f.type)).run P w = .ok ps.toArray w := by
  rw [Array.mapM_eq_mapM_toList]
  simp only [Sem.run_map, places_list fields.toList ps h, Result.andThen_ok]

theorem aparts_of {parts : Array (Nat × Operand)} {l : List (Nat × Nat × Opd)} {γ : Opd → V} (hγ : ∀ x, VRel Φ S w (γ (cO x)) (a.eval x)) {f : Nat → Option (Nat × Nat)}
    (hl : parts.toList.length = l.length) (hp : ∀ (i : Nat) (p : Nat × Operand) (q : Nat × Nat × Opd), parts.toList[i]? = some p → l[i]? = some q → f p.1 = some (q.1, q.2.1) ∧ q.2.2 = cO p.2) :
    (parts.toList.map fun p => (p.1, a.eval p.2)).length = (l.map fun p => (p.1, p.2.1, γ p.2.2)).length ∧
    ∀ (i : Nat) (p : Nat × Value) (q : Nat × Nat × V), (parts.toList.map fun p => (p.1, a.eval p.2))[i]? = some p → (l.map fun p => (p.1, p.2.1, γ p.2.2))[i]? = some q →
      f p.1 = some (q.1, q.2.1) ∧ VRel Φ S w q.2.2 p.2 := by
  refine ⟨by simpa using hl, fun i p q h1 h2 => ?_⟩
  rw [List.getElem?_map] at h1 h2
  cases e1 : parts.toList[i]? with
  | none => simp [e1] at h1
  | some p' =>
    cases e2 : l[i]? with
    | none => simp [e2] at h2
    | some q' =>
      simp only [e1, Option.map_some, Option.some.injEq] at h1
      simp only [e2, Option.map_some, Option.some.injEq] at h2
      subst h1 h2
      obtain ⟨k1, k2⟩ := hp i p' q' e1 e2
      refine ⟨k1, ?_⟩
      simp only [k2]
      exact hγ p'.2

theorem give_build_struct (h : Sim m w0 S0 Jo D Φ S st a w) {γ : Opd → V} (hγ : ∀ x, VRel Φ S w (γ (cO x)) (a.eval x)) {t : TypeId} {parts : Array (Nat × Operand)} {z : List V} {fields : Array Field} {ps : List (Nat × Nat)} (hz : zero? P t = some z)
    (hu : P.underlying t = some (.struct fields)) (hps : places P fields = some ps) {l : List (Nat × Nat × Opd)}
    (hl : (parts.toList.mapM (partOf ps)) = some l) {cs : List V}
    (hf : fillV z (l.map fun p => (p.1, p.2.1, γ p.2.2)) = some cs) :
    Gives P m w0 S0 Jo D st a w (Instr.build t (parts.map fun (i, x) => (i, a.eval x))) (.agg cs) st.hp := by
  obtain ⟨i, u, hi, hu', rfl, hrun⟩ := zero_run hz
  have key : ∀ (l' : List (Nat × Operand)) (l : List (Nat × Nat × Opd)), (l'.mapM (partOf ps)) = some l →
      l'.length = l.length ∧ ∀ (i : Nat) (p : Nat × Operand) (q : Nat × Nat × Opd), l'[i]? = some p → l[i]? = some q → ps.toArray[p.1]? = some (q.1, q.2.1) ∧ q.2.2 = cO p.2 := by
    intro l'
    induction l' with
    | nil => intro l h; simp at h; subst h; simp
    | cons p l' ih =>
      intro l h
      rw [List.mapM_cons] at h
      cases h1 : ps[p.1]? with
      | none => simp [partOf, h1] at h
      | some q =>
        cases h2 : (l'.mapM (partOf ps)) with
        | none => rw [h2] at h; simp [partOf, h1] at h
        | some qs =>
          rw [h2] at h
          simp [partOf, h1] at h
          subst h
          obtain ⟨k1, k2⟩ := ih qs h2
          refine ⟨by simp [k1], fun i p' q' e1 e2 => ?_⟩
          match i with
          | 0 => simp at e1 e2; subst e1 e2; exact ⟨by simpa using h1, rfl⟩
          | i + 1 => exact k2 i p' q' (by simpa using e1) (by simpa using e2)
  obtain ⟨k1, k2⟩ := key _ _ hl
  obtain ⟨k3, k4⟩ := aparts_of hγ (f := (ps.toArray[·]?)) k1 k2
  obtain ⟨arr', e1, e2⟩ := fill_rel _ _ _ u.cells _ _ (cells_const u.cells) k3 k4 hf
  refine gives_same h (x := .agg arr') ?_ (.agg _ _ e2.1 e2.2)
  simp only [Instr.build, Sem.run_bind, hrun, Result.andThen_ok, run_underlying hu, places_run hps]
  have : (parts.map fun (x : Nat × Operand) => (x.1, a.eval x.2)).toList = parts.toList.map fun p => (p.1, a.eval p.2) := by simp
  simp only [this, e1]
  rfl

theorem give_build_array (h : Sim m w0 S0 Jo D Φ S st a w) {γ : Opd → V} (hγ : ∀ x, VRel Φ S w (γ (cO x)) (a.eval x)) {t e : TypeId} {len n : Nat} {parts : Array (Nat × Operand)} {z : List V} (hz : zero? P t = some z)
    (hu : P.underlying t = some (.array len e)) (hn : sz? P e = some n) {cs : List V}
    (hf : fillV z ((parts.toList.map fun p => (p.1 * n, n, cO p.2)).map fun p => (p.1, p.2.1, γ p.2.2)) = some cs) :
    Gives P m w0 S0 Jo D st a w (Instr.build t (parts.map fun (i, x) => (i, a.eval x))) (.agg cs) st.hp := by
  obtain ⟨i, u, hi, hu', rfl, hrun⟩ := zero_run hz
  obtain ⟨k3, k4⟩ := aparts_of hγ (parts := parts) (l := parts.toList.map fun p => (p.1 * n, n, cO p.2)) (f := fun i => some (i * n, n)) (by simp) (by
    intro i p q e1 e2
    rw [List.getElem?_map, e1] at e2
    simp at e2; subst e2; exact ⟨rfl, rfl⟩)
  obtain ⟨arr', e1, e2⟩ := fill_rel (fun i => some (i * n, n)) _ _ u.cells _ _ (cells_const u.cells) k3 k4 hf
  refine gives_same h (x := .agg arr') ?_ (.agg _ _ e2.1 e2.2)
  simp only [Instr.build, Sem.run_bind, hrun, Result.andThen_ok, run_underlying hu, sz_run hn]
  have : (parts.map fun (x : Nat × Operand) => (x.1, a.eval x.2)).toList = parts.toList.map fun p => (p.1, a.eval p.2) := by simp
  simp only [this, e1]
  rfl

theorem allP_map {cs : List V} {ps : List Pv} (h : allP cs = some ps) : cs = ps.map .p := by
  induction cs generalizing ps with
  | nil => simp [allP] at h; subst h; rfl
  | cons c cs ih =>
    cases c <;> simp [allP] at h
    obtain ⟨qs, h1, rfl⟩ := h
    simp [ih h1]

theorem chunk_length {α : Type} (k : Nat) : ∀ (n : Nat) (l : List α), (chunk k n l).length = n
  | 0, _ => rfl
  | n + 1, l => by simp [chunk, chunk_length k n]

theorem chunk_get {α : Type} (k : Nat) : ∀ (n : Nat) (l : List α) (i : Nat) (e : List α), (chunk k n l)[i]? = some e → e = (l.drop (i * k)).take k
  | 0, _, i, e, h => by simp [chunk] at h
  | n + 1, l, 0, e, h => by simp [chunk] at h; simp [h]
  | n + 1, l, i + 1, e, h => by
    simp only [chunk, List.getElem?_cons_succ] at h
    have := chunk_get k n _ i e h
    rw [this, List.drop_drop, Nat.add_mul, Nat.one_mul, Nat.add_comm k]

theorem chunk_len {α : Type} {k n : Nat} {l : List α} (h : n * k ≤ l.length) : ∀ e ∈ chunk k n l, e.length = k := by
  intro e he
  obtain ⟨i, hi⟩ := List.getElem?_of_mem he
  have h1 := chunk_get k n l i e hi
  have h2 : i < n := by have := (List.getElem?_eq_some_iff.1 hi).1; rwa [chunk_length] at this
  have h3 : (i + 1) * k ≤ n * k := Nat.mul_le_mul_right k h2
  rw [Nat.add_mul, Nat.one_mul] at h3
  rw [h1]; simp; omega

theorem slice_rel {b o n k cap : Nat} {ps : List Pv} (full : Bool) (hs : S b) (hn : n * k ≤ ps.length) (hc : n ≤ cap) (hf : full = true → cap = n)
    (hcell : ∀ j x, ps[j]? = some x → ∃ u, w.cell? ⟨b, o + j, none⟩ = some u ∧ PRel S w x u) : PRel S w (.sl k (chunk k n ps) full) (.slice (some ⟨b, o, none⟩) n cap) := by
  rcases Nat.eq_zero_or_pos n with h0 | h0
  · subst h0
    exact .sl0 k full _ cap hf
  · have hx : ∀ i j e x, (chunk k n ps)[i]? = some e → e[j]? = some x → ps[i * k + j]? = some x := by
      intro i j e x he hx
      rw [chunk_get k n ps i e he, List.getElem?_take] at hx
      split at hx
      · rw [List.getElem?_drop] at hx; exact hx
      · cases hx
    refine .sl k _ full b o n cap (fun i j => (w.cell? ⟨b, o + (i * k + j), none⟩).getD undef) hs (chunk_length k n ps) h0 hc hf (chunk_len hn) ?_ ?_
    · intro i j e x he hx'
      obtain ⟨u, h1, _⟩ := hcell _ x (hx i j e x he hx')
      simp [h1]
    · intro i j e x he hx'
      obtain ⟨u, h1, h2⟩ := hcell _ x (hx i j e x he hx')
      simp [h1]; exact h2

theorem newRow_run (t : TypeId) (c : Array Value) (w : World) : (newRow t c).run P w = .ok ⟨w.heap.size, 0, none⟩ (w.alloc (.cells c t)) := by
  simp [newRow]

theorem range_zero {z : Array Value} {n k : Nat} (hk : z.size = k) (h0 : 0 < k) : ((Array.range (n * k)).map (z[· % z.size]!)).toList = (List.replicate n z.toList).flatten := by
  subst hk
  induction n with
  | zero => simp
  | succ n ih =>
    rw [List.replicate_succ', List.flatten_append]
    have e : Array.range ((n + 1) * z.size) = Array.range (n * z.size) ++ (Array.range z.size).map (n * z.size + ·) := by
      apply Array.ext'
      simp [Array.toList_range, Nat.add_mul, List.range_add]
    rw [e, Array.map_append, Array.toList_append, ih]
    congr 1
    simp only [List.flatten_cons, List.flatten_nil, List.append_nil, Array.toList_map, Array.toList_range, List.map_map]
    apply List.ext_getElem?
    intro i
    rw [List.getElem?_map]
    by_cases hi : i < z.size
    · simp [hi, Nat.add_comm (n * z.size) i, Nat.add_mul_mod_self_right, Nat.mod_eq_of_lt hi]
    · simp [hi]

theorem bsl_run {t e : TypeId} {n k : Nat} {z : List V} {parts : Array (Nat × Value)} (hu : P.underlying t = some (.slice e)) (hk : sz? P e = some k) (hz : zero? P e = some z) (h1 : n * k ≤ 16777216) (h0 : 0 < k)
    (hzl : z.length = k) : ∃ arr : Array Value, Cells Φ S w (List.replicate n z).flatten arr ∧ ∀ arr', Instr.fill (fun i => some (i * k, k)) arr parts.toList = some arr' →
      (Instr.buildSlice t n parts).run P w = .ok (.slice (some ⟨w.heap.size, 0, none⟩) n n) (w.alloc (.cells arr' e)) := by
  obtain ⟨i, u, hi, hu', rfl, hrun⟩ := zero_run hz
  have hus : u.cells.size = k := by simpa using hzl
  refine ⟨(Array.range (n * k)).map (u.cells[· % u.cells.size]!), ?_, ?_⟩
  · have hh := cells_const (Φ := Φ) (S := S) (w := w) ((Array.range (n * k)).map (u.cells[· % u.cells.size]!))
    rw [range_zero hus h0] at hh
    have : (List.replicate n u.cells.toList).flatten.map constC = (List.replicate n (u.cells.toList.map constC)).flatten := by
      rw [List.map_flatten, List.map_replicate]
    rw [this] at hh; exact hh
  · intro arr' hf
    rcases Nat.eq_zero_or_pos n with hn | hn
    · subst hn
      have hf' : Instr.fill (fun i => some (i * k, k)) #[] parts.toList = some arr' := by simpa [Array.range_zero'] using hf
      simp [Instr.buildSlice, run_underlying hu, sz_run hk, newRow_run, hf', Array.range_zero']
    · have hnk : n * k ≠ 0 := by have := Nat.mul_pos hn h0; omega
      simp [Instr.buildSlice, run_underlying hu, sz_run hk, hrun, newRow_run, hf, hnk, show ¬ (16777216 < n * k) by omega]

theorem give_bsl (h : Sim m w0 S0 Jo D Φ S st a w) {γ : Opd → V} (hγ : ∀ x, VRel Φ S w (γ (cO x)) (a.eval x)) {t e : TypeId} {n k : Nat} {z : List V} {parts : Array (Nat × Operand)} (hu : P.underlying t = some (.slice e)) (hk : sz? P e = some k) (hz : zero? P e = some z)
    (h1 : n * k ≤ 16777216) (h0 : 0 < k) (hzl : z.length = k) {cs : List V}
    (hf : fillV (List.replicate n z).flatten ((parts.toList.map fun p => (p.1 * k, k, cO p.2)).map fun p => (p.1, p.2.1, γ p.2.2)) = some cs) :
    (∀ s b, st.hp[s]? = some b → Gives P m w0 S0 Jo D st a w (Instr.buildSlice t n (parts.map fun (i, x) => (i, a.eval x))) (.ref s (b.ver + 1) 0 n k) (st.hp.set s ⟨b.ver + 1, .live, cs⟩)) ∧
    (∀ ps, allP cs = some ps → Gives P m w0 S0 Jo D st a w (Instr.buildSlice t n (parts.map fun (i, x) => (i, a.eval x))) (.p (.sl k (chunk k n ps) true)) st.hp) := by
  obtain ⟨arr, hc, hrun⟩ := bsl_run (P := P) (Φ := Φ) (S := S) (w := w) (parts := parts.map fun (i, x) => (i, a.eval x)) hu hk hz h1 h0 hzl
  obtain ⟨k3, k4⟩ := aparts_of hγ (parts := parts) (l := parts.toList.map fun p => (p.1 * k, k, cO p.2)) (f := fun i => some (i * k, k)) (by simp) (by
    intro i p q e1 e2
    rw [List.getElem?_map, e1] at e2
    simp at e2; subst e2; exact ⟨rfl, rfl⟩)
  obtain ⟨arr', e1, e2⟩ := fill_rel (fun i => some (i * k, k)) _ _ arr _ _ hc k3 k4 hf
  have : (parts.map fun (x : Nat × Operand) => (x.1, a.eval x.2)).toList = parts.toList.map fun p => (p.1, a.eval p.2) := by simp
  have hr := hrun arr' (by rw [this]; exact e1)
  have hlen : cs.length = n * k := by
    have : ∀ (l : List (Nat × Nat × V)) (cs cs' : List V), fillV cs l = some cs' → cs'.length = cs.length := by
      intro l
      induction l with
      | nil => intro cs cs' h; simp [fillV] at h; rw [h]
      | cons q l ih =>
        intro cs cs' h
        obtain ⟨o, n, v⟩ := q
        simp only [fillV] at h
        split at h
        · split at h
          · rw [ih _ _ h, wr_length]
          · cases h
        · cases h
    rw [this _ _ _ hf]; simp [hzl]
  constructor
  · intro s b hb
    obtain ⟨Φ', _, h2, h3⟩ := h.new (ty := e) hb (cells_le e2) e2.2
    exact ⟨_, _, Φ', S, hr, h3, .ref _ _ _ _ _ _ _ _ h2 (Nat.le_refl _) (by rw [e2.1, hlen]; omega)⟩
  · intro ps hps
    have hlt : ∀ b, S b → b < w.heap.size := h.Slt
    have hnew : (w.alloc (Obj.cells arr' e)).heap[w.heap.size]? = some (Obj.cells arr' e) := heap_alloc_new w _
    have hg : Sim m w0 S0 Jo D Φ (fun b => S b ∨ b = w.heap.size) st a (w.alloc (.cells arr' e)) :=
      h.grow rfl rfl rfl (by simp) (fun b hb => Below.heap_alloc w _ b hb) (fun b hb => .inl hb) (fun b hb => hb.imp id (fun e => by omega)) (fun b hb => by
        rcases hb with hb | hb
        · have := hlt b hb; simp; omega
        · subst hb; simp)
    refine ⟨_, _, Φ, _, hr, hg, .p _ _ (slice_rel true (.inr rfl) ?_ (Nat.le_refl _) (fun _ => rfl) ?_)⟩
    · have := allP_map hps; rw [this] at hlen; simp at hlen; omega
    · intro j x hx
      have hcs := allP_map hps
      have hj : cs[j]? = some (.p x) := by rw [hcs, List.getElem?_map, hx]; rfl
      have hr' := (e2.2 j _ hj)
      have hjlt : j < arr'.size := by rw [e2.1]; exact (List.getElem?_eq_some_iff.1 hj).1
      refine ⟨_, by rw [Nat.zero_add]; exact cell_getD hnew hjlt, ?_⟩
      cases hr' with
      | p _ _ hp => exact hp.mono (fun b hb => .inl hb) (fun b hb => Below.heap_alloc w _ b (hlt b hb))
end
end Go.Mx
