/- Abstract values stand for the values of the machine, operation by operation: parts of values, offsets, places. No condition. -/
import Derived.Test.YtonjnpefnbnohaaMxE
namespace Go.Mx
open Go.RowKit

section
variable {P : Program} {m : Nat} {w0 : World} {S0 Jo : Nat → Prop} {D : List Deferred} {Φ : Plc} {S : Nat → Prop} {st : St} {a : Act} {w : World}

theorem getD_of_list {arr : Array Value} {i : Nat} : arr.getD i undef = (arr.toList[i]?).getD undef := by
  by_cases h : i < arr.size
  · simp [Array.getD, h]
  · simp [Array.getD, h]

theorem give_st (h : Sim m w0 S0 Jo D Φ S st a w) {t : TypeId} {n : Nat} (hn : sz? P t = some n) {s ver o : Nat} {x y : Value} (hx : VRel Φ S w (.ptr s ver o) x) {v : V} (hy : VRel Φ S w v y)
    {vs : List V} (hv : cellsV v = some vs) {b : Blk} (hb : st.hp[s]? = some b) (hver : b.ver = ver) (hl : b.st.isLive = true) (hlen : vs.length = n) (hle : o + n ≤ b.cs.length) (hok : vs.all okCell = true) :
    ∃ w', (Instr.storeAt t x y).run P w = .ok () w' ∧ Sim m w0 S0 Jo D Φ S ⟨st.ts, st.hp.set s ⟨ver, .live, wr b.cs o vs⟩⟩ a w' := by
  obtain ⟨c, sz, hΦ, rfl⟩ := inv_ptr hx
  subst hver
  have hl' : b.st = .live := by cases hbs : b.st <;> simp_all [BSt.isLive]
  obtain ⟨arr, ty, k1, k2, k3, k4, k5, k6⟩ := live_of h hb hl' hΦ
  have hc := cells_of hy hv
  have hsz : y.cells.size = n := by rw [hc.1]; exact hlen
  have hone : ∀ u ∈ y.cells.toList, u.oneCell' = true := by
    intro u hu
    obtain ⟨i, hi⟩ := List.getElem?_of_mem hu
    have hlt := (List.getElem?_eq_some_iff.1 hi).1
    have hlt' : i < vs.length := by rw [hlen, ← hsz]; simpa using hlt
    have hr := hc.2 i vs[i] (List.getElem?_eq_getElem hlt')
    rw [getD_of_list, hi] at hr
    exact okCell_one hr (by rw [List.all_eq_true] at hok; exact hok _ (List.getElem_mem hlt'))
  obtain ⟨w', arr', hrun, ho, hh, hs', hg⟩ := run_storeCells P (c := c) (o := o) (ty := ty) y.cells.toList 0 w arr k1 hone (by simp; omega)
  refine ⟨w', ?_, ?_⟩
  · simp only [Instr.storeAt, Instr.sureAddr, storeVar, Sem.run_bind, Sem.run_pure, Result.andThen_ok, sz_run hn]
    simp [hsz, hrun]
  · refine h.turn hb hl' hΦ ho hh (hs'.trans k2) (by rw [wr_length]; exact k3) ?_
    intro i u hu
    rw [hg i]
    rcases wr_get _ _ _ _ _ hu with ⟨h1, h2⟩ | ⟨h1, h2⟩
    · have hlt := (List.getElem?_eq_some_iff.1 h2).1
      rw [if_pos (by simp; omega)]
      have hr := hc.2 _ _ h2
      rw [getD_of_list] at hr
      simpa [List.getD] using hr
    · rw [if_neg (by simp; omega)]
      exact k4 i u h2

theorem cells_wr : ∀ (l : List Value) (o k : Nat) (arr : Array Value) (cs vs : List V), Cells Φ S w cs arr → l.length = vs.length → (∀ (i : Nat) (c : V), vs[i]? = some c → VRel Φ S w c ((l[i]?).getD undef)) →
    Cells Φ S w (wr cs (o + k) vs) ((l.zipIdx k).foldl (fun cs (x : Value × Nat) => cs.setIfInBounds (o + x.2) x.1) arr)
  | [], o, k, arr, cs, vs, h, hl, hv => by
    have : vs = [] := List.eq_nil_of_length_eq_zero (by simpa using hl.symm)
    subst this
    simpa [wr] using h
  | x :: l, o, k, arr, cs, [], h, hl, hv => by simp at hl
  | x :: l, o, k, arr, cs, v :: vs, h, hl, hv => by
    simp only [List.zipIdx_cons, List.foldl_cons, wr]
    have h0 : VRel Φ S w v x := by simpa using hv 0 v rfl
    refine cells_wr l o (k + 1) _ _ vs ⟨by simp [h.1], fun i c hc => ?_⟩ (by simpa using hl) (fun i c hc => by simpa using hv (i + 1) c (by simpa using hc))
    rw [getD_set]
    rw [List.getElem?_set] at hc
    by_cases e : o + k = i
    · rw [if_pos e] at hc
      split at hc
      · rename_i hlt
        rw [if_pos ⟨e, by rw [h.1]; omega⟩]
        simp only [Option.some.injEq] at hc; subst hc; exact h0
      · cases hc
    · rw [if_neg e] at hc
      rw [if_neg (fun hh => e hh.1)]
      exact h.2 i c hc

theorem fill_rel (place : Nat → Option (Nat × Nat)) : ∀ (parts : List (Nat × Value)) (aparts : List (Nat × Nat × V)) (arr : Array Value) (cs cs' : List V), Cells Φ S w cs arr → parts.length = aparts.length →
    (∀ (i : Nat) (p : Nat × Value) (q : Nat × Nat × V), parts[i]? = some p → aparts[i]? = some q → place p.1 = some (q.1, q.2.1) ∧ VRel Φ S w q.2.2 p.2) → fillV cs aparts = some cs' → ∃ arr', Instr.fill place arr parts = some arr' ∧ Cells Φ S w cs' arr'
  | [], [], arr, cs, cs', h, _, _, hf => by simp only [fillV, Option.some.injEq] at hf; subst hf; exact ⟨arr, rfl, h⟩
  | [], _ :: _, _, _, _, _, hl, _, _ => by simp at hl
  | _ :: _, [], _, _, _, _, hl, _, _ => by simp at hl
  | (i, x) :: parts, (o, n, v) :: aparts, arr, cs, cs', h, hl, hp, hf => by
    obtain ⟨h1, h2⟩ := hp 0 (i, x) (o, n, v) rfl rfl
    simp only at h1 h2
    simp only [fillV] at hf
    split at hf
    · rename_i vs hvs
      split at hf
      · rename_i hc
        have hcx := cells_of h2 hvs
        have hsz : x.cells.size = n := by rw [hcx.1]; exact hc.1
        have h3 : Cells Φ S w (wr cs (o + 0) vs) ((x.cells.toList.zipIdx 0).foldl (fun cs (x : Value × Nat) => cs.setIfInBounds (o + x.2) x.1) arr) :=
          cells_wr x.cells.toList o 0 arr cs vs h (by simp [hsz, hc.1]) (fun i c hc' => by have := hcx.2 i c hc'; rw [getD_of_list] at this; exact this)
        have h4 : (x.cells.toList.zipIdx 0).foldl (fun cs (x : Value × Nat) => cs.setIfInBounds (o + x.2) x.1) arr = x.cells.zipIdx.foldl (fun cs (c, j) => cs.setIfInBounds (o + j) c) arr := by
          rw [← Array.foldl_toList]; simp [Array.toList_zipIdx]
        rw [h4] at h3
        obtain ⟨arr', e1, e2⟩ := fill_rel place parts aparts _ _ cs' h3 (by simpa using hl) (fun i p q hp' hq => hp (i + 1) p q (by simpa using hp') (by simpa using hq)) hf
        refine ⟨arr', ?_, e2⟩
        simp only [Instr.fill, h1]
        rw [if_neg (by simp only [Bool.or_eq_true, decide_eq_true_eq, not_or]; refine ⟨by simp [hsz], ?_⟩; rw [h.1, hsz]; omega)]
        exact e1
      · cases hf
    · cases hf
end
end Go.Mx
