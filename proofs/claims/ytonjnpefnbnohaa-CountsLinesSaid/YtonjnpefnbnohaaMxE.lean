/- Each abstract operation is what the model's operation does. -/
import Derived.Test.YtonjnpefnbnohaaMxD
namespace Go.Mx
open Go.RowKit

section
variable {P : Program} {m : Nat} {w0 : World} {S0 Jo : Nat → Prop} {D : List Deferred} {Φ : Plc} {S : Nat → Prop} {st : St} {a : Act} {w : World}

theorem rel_unw {c : Bool} {v : V} {x : Value} (h : VRel Φ S w v x) (hc : c = true) : VRel Φ S w (unw c v) x := by
  cases h with
  | opt b v x h =>
    simp only [unw]
    split
    · rename_i e; exact h (by rw [e, hc])
    · exact .und _
  | p _ _ h => exact .p _ _ h
  | agg cs arr hn h => exact .agg cs arr hn h
  | tup cs arr hn h => exact .tup cs arr hn h
  | ptr t ver o c sz h => exact .ptr t ver o c sz h
  | ipt cs b o cell hs h1 h2 => exact .ipt cs b o cell hs h1 h2
  | ref t ver o n k c sz cap h hn hc => exact .ref t ver o n k c sz cap h hn hc
  | refv t ver k a h => exact .refv t ver k a h
  | clo f cap caps hn h => exact .clo f cap caps hn h
  | und _ => exact .und _
  | no => exact .no

theorem inv_int {k : IntKind} {n : Int} {x : Value} (h : VRel Φ S w (.p (.int k n)) x) : x = .int k n := by cases h with | p _ _ h => cases h; rfl
theorem inv_bool {b : Bool} {x : Value} (h : VRel Φ S w (.p (.bool b)) x) : x = .bool b := by cases h with | p _ _ h => cases h; rfl
theorem inv_str {b : ByteArray} {x : Value} (h : VRel Φ S w (.p (.str b)) x) : x = .string b := by cases h with | p _ _ h => cases h; rfl
theorem inv_agg {cs : List V} {x : Value} (h : VRel Φ S w (.agg cs) x) : ∃ arr : Array Value, x = .agg arr ∧ arr.size = cs.length ∧ ∀ i c, cs[i]? = some c → VRel Φ S w c (arr.getD i undef) := by
  cases h with | agg cs arr hn h => exact ⟨arr, rfl, hn, h⟩
theorem inv_tup {cs : List V} {x : Value} (h : VRel Φ S w (.tup cs) x) : ∃ arr : Array Value, x = .tuple arr ∧ arr.size = cs.length ∧ ∀ i c, cs[i]? = some c → VRel Φ S w c (arr.getD i undef) := by
  cases h with | tup cs arr hn h => exact ⟨arr, rfl, hn, h⟩
theorem inv_ptr {t ver o : Nat} {x : Value} (h : VRel Φ S w (.ptr t ver o) x) : ∃ c sz, Φ t ver = some (.blk c sz) ∧ x = .pointer (some ⟨c, o, none⟩) := by
  cases h with | ptr t ver o c sz h => exact ⟨c, sz, h, rfl⟩
theorem inv_ipt {cs : List Pv} {x : Value} (h : VRel Φ S w (.ipt cs) x) : ∃ (b o : Nat) (cell : Nat → Value), x = .pointer (some ⟨b, o, none⟩) ∧ S b ∧ (∀ j x, cs[j]? = some x → w.cell? ⟨b, o + j, none⟩ = some (cell j)) ∧
    (∀ j x, cs[j]? = some x → PRel S w x (cell j)) := by
  cases h with | ipt cs b o cell hs h1 h2 => exact ⟨b, o, cell, rfl, hs, h1, h2⟩

theorem rel_constC (v : Value) : VRel Φ S w (constC v) v := by
  unfold constC
  split
  · exact .p _ _ (.int _ _)
  · exact .p _ _ (.bool _)
  · exact .p _ _ (.str _)
  · exact .p _ _ (.slnil _ _)
  · exact .und _
theorem rel_constV (v : Value) : VRel Φ S w (constV v) v := by
  unfold constV
  split
  · rename_i cs
    refine .agg _ _ (by simp) fun i c h => ?_
    rw [List.getElem?_map] at h
    cases h' : cs.toList[i]? with
    | none => simp [h'] at h
    | some u =>
      simp only [h', Option.map_some, Option.some.injEq] at h
      subst h
      have : cs.getD i undef = u := by
        obtain ⟨hi, e⟩ := List.getElem?_eq_some_iff.1 h'
        simp at hi
        simp [Array.getD, hi]; simpa using e
      rw [this]; exact rel_constC u
  · exact rel_constC v

theorem rel_get (h : Sim m w0 S0 Jo D Φ S st a w) (x : Operand) : VRel Φ S w (st.get (cO x)) (a.eval x) := by
  cases x with
  | tmp t =>
    simp only [cO, St.get, Act.eval]
    cases ht : st.ts[t]? with
    | none => exact .und _
    | some v => exact h.ts t v ht
  | const v => exact rel_constV v
  | global g => exact .und _
  | func f => exact .clo f [] _ rfl (fun i c h => by simp at h)

theorem sz_run {t n : Nat} (h : sz? P t = some n) (w : World) : (sizeOf t).run P w = .ok n w := by
  unfold sz? at h
  cases hi : P.info? t with
  | none => simp [hi] at h
  | some i => simp [hi] at h; subst h; simp [sizeOf, typeInfo, hi]
theorem und_some {t : TypeId} {b : Bool} (h : agg? P t = some b) : ∃ d, P.underlying t = some d ∧ isAggD d = b := by
  unfold agg? at h
  cases hi : P.underlying t with
  | none => simp [hi] at h
  | some d => exact ⟨d, rfl, by simpa [hi] using h⟩
theorem agg_run {t : TypeId} {b : Bool} (h : agg? P t = some b) (w : World) : (isAgg t).run P w = .ok b w := by
  obtain ⟨d, hd, rfl⟩ := und_some h
  unfold isAgg
  simp only [Sem.run_bind, run_underlying hd, Result.andThen_ok]
  cases d <;> rfl
theorem zero_run {t : TypeId} {z : List V} (h : zero? P t = some z) : ∃ (i : TypeInfo) (u : Value), P.info? t = some i ∧ i.zero = some u ∧ z = u.cells.toList.map constC ∧ ∀ w, (zeroValue t).run P w = .ok u w := by
  unfold zero? at h
  cases hi : P.info? t with
  | none => simp [hi] at h
  | some i =>
    cases hz : i.zero with
    | none => simp [hi, hz] at h
    | some u =>
      simp [hi, hz] at h
      exact ⟨i, u, rfl, hz, h.symm, fun w => by simp [zeroValue, typeInfo, hi, hz]⟩

def Cells (Φ : Plc) (S : Nat → Prop) (w : World) (cs : List V) (arr : Array Value) : Prop := arr.size = cs.length ∧ ∀ i c, cs[i]? = some c → VRel Φ S w c (arr.getD i undef)

theorem cells_const (arr : Array Value) : Cells Φ S w (arr.toList.map constC) arr := by
  refine ⟨by simp, fun i c h => ?_⟩
  rw [List.getElem?_map] at h
  cases h' : arr.toList[i]? with
  | none => simp [h'] at h
  | some u =>
    simp only [h', Option.map_some, Option.some.injEq] at h
    subst h
    have : arr.getD i undef = u := by
      obtain ⟨hi, e⟩ := List.getElem?_eq_some_iff.1 h'
      simp at hi
      simp [Array.getD, hi]; simpa using e
    rw [this]; exact rel_constC u

theorem getD_one (x : Value) : (#[x] : Array Value).getD 0 undef = x := rfl

theorem cells_of {v : V} {x : Value} {cs : List V} (h : VRel Φ S w v x) (hc : cellsV v = some cs) : Cells Φ S w cs x.cells := by
  have one : ∀ (v : V) (x : Value), VRel Φ S w v x → x.cells = #[x] → Cells Φ S w [v] x.cells := by
    intro v x h e
    rw [e]
    refine ⟨rfl, fun i c hc => ?_⟩
    match i with
    | 0 => simp at hc; subst hc; exact h
    | i + 1 => simp at hc
  cases h with
  | agg cs' arr hn h' => simp [cellsV] at hc; subst hc; exact ⟨hn, h'⟩
  | p y v hp =>
    cases hp <;> simp [cellsV] at hc <;> subst hc <;> refine one _ _ ?_ rfl <;> refine .p _ _ ?_
    · exact .int _ _
    · exact .bool _
    · exact .str _
    · exact .slnil _ _
    · exact .sl0 _ _ _ _ ‹_›
    · exact .sl _ _ _ _ _ _ _ _ ‹_› ‹_› ‹_› ‹_› ‹_› ‹_› ‹_› ‹_›
    · exact .fn _ _ _ _ _ _ ‹_› ‹_› ‹_› ‹_› ‹_›
  | tup => simp [cellsV] at hc
  | ptr t ver o c sz h' => simp [cellsV] at hc; subst hc; exact one _ _ (.ptr t ver o c sz h') rfl
  | ipt cs' b o cell hs h1 h2 => simp [cellsV] at hc; subst hc; exact one _ _ (.ipt cs' b o cell hs h1 h2) rfl
  | ref t ver o n k c sz cap h' hn hc' => simp [cellsV] at hc; subst hc; exact one _ _ (.ref t ver o n k c sz cap h' hn hc') rfl
  | refv t ver k a h' => simp [cellsV] at hc; subst hc; exact one _ _ (.refv t ver k a h') rfl
  | clo f cap caps hn h' => simp [cellsV] at hc; subst hc; exact one _ _ (.clo f cap caps hn h') rfl
  | opt => simp [cellsV] at hc
  | und => simp [cellsV] at hc
  | no => simp [cellsV] at hc

theorem okCell_one {v : V} {x : Value} (h : VRel Φ S w v x) (hc : okCell v = true) : x.oneCell' = true := by
  cases h with
  | p y v hp => exact hp.cellOne
  | _ => first | rfl | simp [okCell] at hc

def Gives (P : Program) (m : Nat) (w0 : World) (S0 Jo : Nat → Prop) (D : List Deferred) (st : St) (a : Act) (w : World) (sem : Sem Value) (v : V) (hp' : List Blk) : Prop :=
  ∃ x w' Φ' S', sem.run P w = .ok x w' ∧ Sim m w0 S0 Jo D Φ' S' ⟨st.ts, hp'⟩ a w' ∧ VRel Φ' S' w' v x

theorem gives_same (h : Sim m w0 S0 Jo D Φ S st a w) {sem : Sem Value} {x : Value} {v : V} (hr : sem.run P w = .ok x w) (hv : VRel Φ S w v x) : Gives P m w0 S0 Jo D st a w sem v st.hp :=
  ⟨x, w, Φ, S, hr, h, hv⟩

theorem cells_le {cs : List V} {arr : Array Value} (h : Cells Φ S w cs arr) : cs.length ≤ arr.size := by rw [h.1]; exact Nat.le_refl _

theorem gives_new (h : Sim m w0 S0 Jo D Φ S st a w) {s : Nat} {b : Blk} (hb : st.hp[s]? = some b) {arr : Array Value} {ty : TypeId} {cs : List V} (hc : Cells Φ S w cs arr) {sem : Sem Value}
    (hr : sem.run P w = .ok (.pointer (some ⟨w.heap.size, 0, none⟩)) (w.alloc (.cells arr ty))) :
    Gives P m w0 S0 Jo D st a w sem (.ptr s (b.ver + 1) 0) (st.hp.set s ⟨b.ver + 1, .live, cs⟩) := by
  obtain ⟨Φ', _, h2, h3⟩ := h.new (ty := ty) hb (cells_le hc) hc.2
  exact ⟨_, _, Φ', S, hr, h3, .ptr _ _ _ _ _ h2⟩

theorem run_newVar (t : TypeId) (v : Value) (w : World) : (newVar t v).run P w = .ok ⟨w.heap.size, 0, none⟩ (w.alloc (.cells v.cells t)) := by
  simp [newVar, newRow]

theorem give_newz (h : Sim m w0 S0 Jo D Φ S st a w) {s : Nat} {b : Blk} (hb : st.hp[s]? = some b) {e : TypeId} {z : List V} (hz : zero? P e = some z) :
    Gives P m w0 S0 Jo D st a w (Instr.alloc e true (.tuple #[])) (.ptr s (b.ver + 1) 0) (st.hp.set s ⟨b.ver + 1, .live, z⟩) := by
  obtain ⟨i, u, hi, hu, rfl, hrun⟩ := zero_run hz
  refine gives_new (arr := u.cells) (ty := e) h hb (cells_const _) ?_
  simp [Instr.alloc, hrun, run_newVar]

theorem give_box (h : Sim m w0 S0 Jo D Φ S st a w) {s : Nat} {b : Blk} (hb : st.hp[s]? = some b) {e : TypeId} {x : Value} {v : V} (hv : VRel Φ S w v x) {cs : List V} (hc : cellsV v = some cs) :
    Gives P m w0 S0 Jo D st a w (Instr.box e x) (.ptr s (b.ver + 1) 0) (st.hp.set s ⟨b.ver + 1, .live, cs⟩) := by
  refine gives_new (arr := x.cells) (ty := e) h hb (cells_of hv hc) ?_
  simp [Instr.box, run_newVar]

theorem cells_at (h : Sim m w0 S0 Jo D Φ S st a w) {t : Nat} {b : Blk} (hb : st.hp[t]? = some b) (hl : b.st.ok = true) {c sz : Nat} (hp : Φ t b.ver = some (.blk c sz)) :
    ∃ arr ty fz, w.heap[c]? = some (.cells arr ty fz) ∧ b.cs.length ≤ arr.size ∧ (∀ i x, b.cs[i]? = some x → VRel Φ S w x (arr.getD i undef)) := by
  have hB := h.hp t b hb
  unfold BRel at hB
  cases hs : b.st with
  | dead => rw [hs] at hl; cases hl
  | live =>
    rw [hs] at hB
    rcases hB with ⟨hB, _⟩ | ⟨c', sz', arr, ty, k1, k2, k3, k4, k5, k6, k7⟩
    · rw [hB] at hp; cases hp
    · rw [k1] at hp; injection hp with hp; injection hp with e1 e2
      subst e1 e2
      exact ⟨arr, ty, _, k2, by rw [k3]; exact k4, k5⟩
  | frozen =>
    rw [hs] at hB
    rcases hB with ⟨hB, _⟩ | ⟨c', sz', k1, k2, arr, ty, fz, k3, k4, k5⟩
    · rw [hB] at hp; cases hp
    · rw [k1] at hp; injection hp with hp; injection hp with e1 e2
      subst e1 e2
      exact ⟨arr, ty, fz, k3, by rw [k4.1]; exact k4.2, k5⟩

theorem cell_getD {c i : Nat} {arr : Array Value} {ty : TypeId} {fz : Nat × Nat} (h : w.heap[c]? = some (.cells arr ty fz)) (hi : i < arr.size) : w.cell? ⟨c, i, none⟩ = some (arr.getD i undef) := by
  simp [World.cell?, h, Array.getD, hi]

theorem behind_rel (h : Sim m w0 S0 Jo D Φ S st a w) {v : V} {x : Value} (hv : VRel Φ S w v x) {cs : List V} (hb : behind st.hp v = some cs) :
    ∃ (c o : Nat) (f : Nat → Value), x = .pointer (some ⟨c, o, none⟩) ∧ ∀ j u, cs[j]? = some u → w.cell? ⟨c, o + j, none⟩ = some (f j) ∧ VRel Φ S w u (f j) := by
  cases hv with
  | ptr t ver o c sz hΦ =>
    simp only [behind] at hb
    split at hb
    · rename_i b hb'
      split at hb
      · rename_i hc
        obtain ⟨rfl, hok, hle⟩ := hc
        simp only [Option.some.injEq] at hb
        subst hb
        obtain ⟨arr, ty, fz, k1, k2, k3⟩ := cells_at h hb' hok hΦ
        refine ⟨c, o, fun j => arr.getD (o + j) undef, rfl, fun j u hu => ?_⟩
        rw [List.getElem?_drop] at hu
        have hlt := (List.getElem?_eq_some_iff.1 hu).1
        exact ⟨cell_getD k1 (by omega), k3 _ _ hu⟩
      · cases hb
    · cases hb
  | ipt ps b o cell hs h1 h2 =>
    simp only [behind, Option.some.injEq] at hb
    subst hb
    refine ⟨b, o, cell, rfl, fun j u hu => ?_⟩
    rw [List.getElem?_map] at hu
    cases hj : ps[j]? with
    | none => simp [hj] at hu
    | some y =>
      simp only [hj, Option.map_some, Option.some.injEq] at hu
      subst hu
      exact ⟨h1 j y hj, .p _ _ (h2 j y hj)⟩
  | _ => simp [behind] at hb

theorem give_ld1 (h : Sim m w0 S0 Jo D Φ S st a w) {t : TypeId} {n : Nat} (ha : agg? P t = some false) (_hn : sz? P t = some n) {v : V} {x : Value} (hv : VRel Φ S w v x) {cs : List V}
    (hb : behind st.hp v = some cs) {u : V} (hu : cs[0]? = some u) : Gives P m w0 S0 Jo D st a w (Instr.loadAt t x) u st.hp := by
  obtain ⟨c, o, f, rfl, hf⟩ := behind_rel h hv hb
  obtain ⟨h1, h2⟩ := hf 0 u hu
  refine gives_same h (x := f 0) ?_ h2
  simp only [Nat.add_zero] at h1
  simp [Instr.loadAt, Instr.sureAddr, loadVar, agg_run ha, h1]

theorem give_ldn (h : Sim m w0 S0 Jo D Φ S st a w) {t : TypeId} {n : Nat} (ha : agg? P t = some true) (hn : sz? P t = some n) {v : V} {x : Value} (hv : VRel Φ S w v x) {cs : List V}
    (hb : behind st.hp v = some cs) (hu : n ≤ cs.length) : Gives P m w0 S0 Jo D st a w (Instr.loadAt t x) (.agg (cs.take n)) st.hp := by
  obtain ⟨c, o, f, rfl, hf⟩ := behind_rel h hv hb
  have hl := run_loadCells P (c := c) (o := o) f n 0 w #[] (fun j hj => by
    have hlt : j < cs.length := by omega
    have := (hf j cs[j] (List.getElem?_eq_getElem hlt)).1
    simpa using this)
  refine gives_same h (x := .agg (#[] ++ ((List.range' 0 n).map f).toArray)) ?_ (.agg _ _ ?_ ?_)
  · simp only [Instr.loadAt, Instr.sureAddr, loadVar, Sem.run_bind, Sem.run_pure, Result.andThen_ok, agg_run ha, sz_run hn, if_true]
    simp only [loadCells, hl, Result.andThen_ok]
  · simp; omega
  · intro i u hi
    rw [List.getElem?_take] at hi
    split at hi
    · rename_i hlt
      have e : (#[] ++ ((List.range' 0 n).map f).toArray).getD i undef = f i := by
        simp [Array.getD, hlt]
      rw [e]; exact (hf i u hi).2
    · cases hi
end
end Go.Mx
