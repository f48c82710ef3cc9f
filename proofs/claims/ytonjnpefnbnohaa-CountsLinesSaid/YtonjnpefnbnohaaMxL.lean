/- The same for append that stays or grows. No condition. -/
import Derived.Test.YtonjnpefnbnohaaMxK
namespace Go.Mx
open Go.RowKit

section
variable {P : Program} {m : Nat} {w0 : World} {S0 Jo : Nat → Prop} {D : List Deferred} {Φ : Plc} {S : Nat → Prop} {st : St} {a : Act} {w : World}

theorem app_nothing {t ty e : TypeId} {i : TypeInfo} (hu : P.underlying t = some (.slice e)) (hi : P.info? e = some i) (base base2 : Option Addr) (n cap cap2 : Nat) (hn : n ≤ cap) (w : World) :
    (Builtin.append_ #[t, t] ty #[.slice base n cap, .slice base2 0 cap2]).run P w = .ok (.slice base n cap) w := by
  cases base <;> cases base2 <;>
    simp [Builtin.append_, run_underlying hu, sizeOf, typeInfo, hi, Builtin.lenOf, Builtin.firstCells, hn, storeCells, loadCells, loadCellsFrom]

theorem give_app_lit (h : Sim m w0 S0 Jo D Φ S st a w) {t ty e : TypeId} {i : TypeInfo} {z : Value} (hu : P.underlying t = some (.slice e)) (hi : P.info? e = some i) (hz : i.zero = some z) (hb0 : 0 < i.bytes) (hzl : z.cells.size = i.size)
    {s : Nat} {b : Blk} (hb : st.hp[s]? = some b) {k : Nat} {x y : Value} (hx : VRel Φ S w (.p (.sl k [] true)) x) {v : V} (hv : VRel Φ S w v y) {es : List (List Pv)} (hs : sliceP st.hp i.size v = some es)
    (hby : es.length * i.bytes ≤ 140737488355328) :
    Gives P m w0 S0 Jo D st a w (Builtin.append_ #[t, t] ty #[x, y]) (.ref s (b.ver + 1) 0 es.length i.size) (st.hp.set s ⟨b.ver + 1, .live, es.flatten.map .p⟩) := by
  obtain ⟨base, cap, rfl, _, hcap⟩ := sl_len hx
  have hc0 : cap = 0 := by simpa using hcap rfl
  subst hc0
  rcases Nat.eq_zero_or_pos es.length with h0 | h0
  · have he : es = [] := List.eq_nil_of_length_eq_zero h0
    subst he
    obtain ⟨base2, cap2, rfl, _, _, _⟩ := sliceP_rel h hv hs
    obtain ⟨Φ', _, h2, h3⟩ := h.bump (p := .virgin) (cs := []) hb (.inr rfl) (.inl ⟨rfl, rfl⟩)
    exact ⟨_, _, Φ', S, app_nothing hu hi base base2 0 0 cap2 (Nat.le_refl _) w, h3, .refv _ _ _ _ h2⟩
  · have := app_grow (ty := ty) h hu hi hz hb0 hzl hb (base := base) (n := 0) (cap := 0) (cs := []) (olds := []) (by simp) (by simp) (by omega) (fun _ => rfl) (by simp) hv hs (by omega) (Nat.le_refl _) (by rw [Nat.zero_add]; exact hby)
    simpa using this

theorem give_app_ref (h : Sim m w0 S0 Jo D Φ S st a w) {t ty e : TypeId} {i : TypeInfo} {z : Value} (hu : P.underlying t = some (.slice e)) (hi : P.info? e = some i) (hz : i.zero = some z) (hb0 : 0 < i.bytes) (hzl : z.cells.size = i.size)
    {s : Nat} {b : Blk} (hb : st.hp[s]? = some b) (hl : b.st.isLive = true) {n : Nat} {x y : Value} (hx : VRel Φ S w (.ref s b.ver 0 n i.size) x) (hcl : b.cs.length = n * i.size) {v : V} (hv : VRel Φ S w v y) {es : List (List Pv)} (hs : sliceP st.hp i.size v = some es)
    (hby : (n + es.length) * i.bytes ≤ 140737488355328) :
    Gives P m w0 S0 Jo D st a w (Builtin.append_ #[t, t] ty #[x, y]) (.ref s (b.ver + 1) 0 (n + es.length) i.size) (st.hp.set s ⟨b.ver + 1, .live, b.cs ++ es.flatten.map .p⟩) := by
  have hl' : b.st = .live := by cases hbs : b.st <;> simp_all [BSt.isLive]
  cases hx with
  | refv _ _ _ ad hΦ =>
    have hcs : b.cs = [] := List.eq_nil_of_length_eq_zero (by simpa using hcl)
    rcases Nat.eq_zero_or_pos es.length with h0 | h0
    · have he : es = [] := List.eq_nil_of_length_eq_zero h0
      subst he
      obtain ⟨base2, cap2, rfl, _, _, _⟩ := sliceP_rel h hv hs
      obtain ⟨Φ', _, h2, h3⟩ := h.bump (p := .virgin) (cs := []) hb (.inr rfl) (.inl ⟨rfl, rfl⟩)
      rw [hcs]
      exact ⟨_, _, Φ', S, app_nothing hu hi ad base2 0 0 cap2 (Nat.le_refl _) w, h3, .refv _ _ _ _ h2⟩
    · have := app_grow (ty := ty) h hu hi hz hb0 hzl hb (base := ad) (n := 0) (cap := 0) (cs := []) (olds := []) (by simp) (by simp) (by omega) (fun _ => rfl) (by simp) hv hs (by omega) (Nat.le_refl _) hby
      rw [hcs]; exact this
  | ref _ _ _ _ _ c sz cap hΦ hn hcap =>
    obtain ⟨arr, ty', k1, k2, k3, k4, k5, k6⟩ := live_of h hb hl' hΦ
    by_cases hfit : n + es.length ≤ cap
    · obtain ⟨base2, cap2, rfl, hle2, hfl, hsrc⟩ := sliceP_rel h hv hs
      rcases Nat.eq_zero_or_pos es.length with h0 | h0
      · have he : es = [] := List.eq_nil_of_length_eq_zero h0
        subst he
        obtain ⟨Φ', _, h2, h3⟩ := h.bump (p := .blk c sz) (cs := b.cs) hb (.inl ⟨hl', hΦ⟩) (.inr ⟨rfl, hl', hΦ⟩)
        refine ⟨_, _, Φ', S, app_nothing hu hi _ base2 n cap cap2 hn w, by simpa using h3, .ref _ _ _ _ _ _ _ _ h2 hn hcap⟩
      · obtain ⟨c2, o2, news, rfl, hnl, hnew, hnr⟩ := hsrc h0
        have hone : ∀ u ∈ news, u.oneCell' = true := by
          intro u hu'
          obtain ⟨j, hj⟩ := List.getElem?_of_mem hu'
          have hlt := (List.getElem?_eq_some_iff.1 hj).1
          have hp := hnr j (es.flatten[j]'(by omega)) (List.getElem?_eq_getElem _)
          have : news.getD j undef = u := by simp [List.getD, hj]
          rw [this] at hp; exact hp.cellOne
        have hle : n * i.size + news.length ≤ arr.size := by
          rw [hnl, k2, ← Nat.add_mul]
          exact Nat.le_trans (Nat.mul_le_mul_right _ hfit) (by omega)
        obtain ⟨w', arr', hrun, ho, hh, hs', hg⟩ := run_storeCells P (c := c) (o := n * i.size) (ty := ty') news 0 w arr k1 hone (by simpa using hle)
        have hlen : (b.cs ++ es.flatten.map V.p).length = (n + es.length) * i.size := by
          rw [List.length_append, List.length_map, hcl, hfl, ← Nat.add_mul]
        have h1 := h.turn hb hl' hΦ ho hh (hs'.trans k2) (cs' := b.cs ++ es.flatten.map V.p) (by
          rw [hlen]; exact Nat.le_trans (Nat.mul_le_mul_right _ hfit) (by omega)) (by
          intro j x hx
          rw [hg j]
          rw [List.getElem?_append] at hx
          split at hx
          · rename_i hlt
            rw [if_neg (by omega)]
            exact k4 j x hx
          · rename_i hlt
            rw [List.getElem?_map] at hx
            cases hf : es.flatten[j - b.cs.length]? with
            | none => simp [hf] at hx
            | some p =>
              simp only [hf, Option.map_some, Option.some.injEq] at hx
              subst hx
              have hlt2 := (List.getElem?_eq_some_iff.1 hf).1
              rw [if_pos (by omega)]
              have := hnr _ p hf
              rw [show j - (n * i.size + 0) = j - b.cs.length by omega]
              exact .p _ _ this)
        have hslt : s < st.hp.length := (List.getElem?_eq_some_iff.1 hb).1
        obtain ⟨Φ', _, h2, h3⟩ := h1.bump (t := s) (b := ⟨b.ver, .live, b.cs ++ es.flatten.map V.p⟩) (p := .blk c sz) (cs := b.cs ++ es.flatten.map V.p) (by simp [hslt]) (.inl ⟨rfl, hΦ⟩) (.inr ⟨rfl, rfl, hΦ⟩)
        refine ⟨.slice (some ⟨c, 0, none⟩) (n + es.length) cap, w', Φ', S, ?_, by simpa using h3, .ref _ _ _ _ _ _ _ _ h2 hfit hcap⟩
        have hf := run_firstCells_some (P := P) w i.size es.length ⟨c2, o2, none⟩ es.length cap2 news hnl hnew
        have hadd : (⟨c, 0, none⟩ : Addr).add (n * i.size) = ⟨c, n * i.size, none⟩ := by rw [addr_add]; simp
        simp [Builtin.append_, run_underlying hu, sizeOf, typeInfo, hi, Builtin.lenOf, hfit, hf, hadd, hrun]
    · exact app_grow h hu hi hz hb0 hzl hb (base := some ⟨c, 0, none⟩) (n := n) (cap := cap) (cs := b.cs) (olds := (List.range (n * i.size)).map (fun j => arr.getD j undef)) (by simp) hcl
        (fun _ => ⟨c, 0, rfl, fun j u hj => by
          rw [List.getElem?_map] at hj
          by_cases hlt : j < n * i.size
          · rw [List.getElem?_range hlt] at hj
            simp only [Option.map_some, Option.some.injEq] at hj
            rw [addr_add, Nat.zero_add, ← hj]
            exact cell_getD k1 (by omega)
          · rw [List.getElem?_eq_none (by simpa using hlt)] at hj; simp at hj⟩)
        (fun e => by cases e) (fun j x hx => by
          have hlt : j < n * i.size := by rw [← hcl]; exact (List.getElem?_eq_some_iff.1 hx).1
          rw [List.getD, List.getElem?_map, List.getElem?_range hlt]
          exact k4 j x hx) hv hs (by omega) hn hby
end
end Go.Mx
