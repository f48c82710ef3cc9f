/- The same for writing through places into blocks. No condition. -/
import Derived.Test.YtonjnpefnbnohaaMxJ
namespace Go.Mx
open Go.RowKit

section
variable {P : Program} {m : Nat} {w0 : World} {S0 Jo : Nat → Prop} {D : List Deferred} {Φ : Plc} {S : Nat → Prop} {st : St} {a : Act} {w : World}

theorem set_get {l : List Blk} {t : Nat} {x : Blk} {t' : Nat} {b' : Blk} (e : (l.set t x)[t']? = some b') : (t' = t ∧ b' = x) ∨ (t' ≠ t ∧ l[t']? = some b') := by
  rw [List.getElem?_set] at e
  by_cases e' : t = t'
  · subst e'
    rw [if_pos rfl] at e
    split at e
    · left; exact ⟨rfl, by simpa using e.symm⟩
    · cases e
  · rw [if_neg e'] at e; exact .inr ⟨fun x => e' x.symm, e⟩

theorem Sim.bump (h : Sim m w0 S0 Jo D Φ S st a w) {t : Nat} {b : Blk} (hb : st.hp[t]? = some b) {p : Pl} (hp : (b.st = .live ∧ Φ t b.ver = some p) ∨ p = .virgin) {cs : List V} (hcs : (p = .virgin ∧ cs = []) ∨ (cs = b.cs ∧ b.st = .live ∧ Φ t b.ver = some p)) :
    ∃ Φ', (∀ t k p, Φ t k = some p → Φ' t k = some p) ∧ Φ' t (b.ver + 1) = some p ∧ Sim m w0 S0 Jo D Φ' S { st with hp := st.hp.set t ⟨b.ver + 1, .live, cs⟩ } a w := by
  let Φ' : Plc := fun t' k => if t' = t ∧ k = b.ver + 1 then some p else Φ t' k
  have hΦ : ∀ t k p, Φ t k = some p → Φ' t k = some p := by
    intro t' k p hp
    simp only [Φ']
    split
    · rename_i e; obtain ⟨rfl, rfl⟩ := e
      rw [h.fresh _ b _ hb (Nat.lt_succ_self _)] at hp; cases hp
    · exact hp
  have hΦt : Φ' t (b.ver + 1) = some p := by simp [Φ']
  have hne : ∀ t' k, t' ≠ t → Φ' t' k = Φ t' k := fun t' k e => by simp [Φ', e]
  have up : ∀ x v, VRel Φ S w x v → VRel Φ' S w x v := fun x v hv => hv.mono hΦ (fun _ e => e) (fun _ _ => rfl)
  refine ⟨Φ', hΦ, hΦt, ⟨h.defers, h.size, fun t v hv => up _ _ (h.ts t v hv), ?_, ?_, ?_, h.Slt, h.Sold, h.Snew, h.frame, fun t' hm => by obtain ⟨c', sz', q1, q2⟩ := h.io t' hm; exact ⟨c', sz', by simpa [Φ'] using q1, q2⟩⟩⟩
  · intro t' b' hb'
    rcases set_get hb' with ⟨rfl, rfl⟩ | ⟨hne', hb'⟩
    · unfold BRel
      rcases hcs with ⟨rfl, rfl⟩ | ⟨rfl, hl, hpp⟩
      · exact .inl ⟨hΦt, rfl⟩
      · have hB := h.hp t' b hb
        unfold BRel at hB
        rw [hl] at hB
        rcases hB with ⟨hB, hB2⟩ | ⟨c, sz, arr', ty', k1, k2, k3, k4, k5, k6, k7⟩
        · rw [hB] at hpp; injection hpp with hpp; subst hpp
          exact .inl ⟨hΦt, hB2⟩
        · rw [k1] at hpp; injection hpp with hpp; subst hpp
          exact .inr ⟨c, sz, arr', ty', hΦt, k2, k3, k4, fun i x hx => up _ _ (k5 i x hx), k6, k7⟩
    · have hB := h.hp t' b' hb'
      unfold BRel at hB ⊢
      split at hB
      · trivial
      · rcases hB with hB | ⟨c, sz, arr', ty', k1, k2, k3, k4, k5, k6, k7⟩
        · exact .inl ⟨by rw [hne _ _ hne']; exact hB.1, hB.2⟩
        · exact .inr ⟨c, sz, arr', ty', by rw [hne _ _ hne']; exact k1, k2, k3, k4, fun i x hx => up _ _ (k5 i x hx), k6, k7⟩
      · rcases hB with hB | ⟨c, sz, k1, k2, arr', ty', fz, k3, k4, k5⟩
        · exact .inl ⟨by rw [hne _ _ hne']; exact hB.1, hB.2⟩
        · exact .inr ⟨c, sz, by rw [hne _ _ hne']; exact k1, k2, arr', ty', fz, k3, k4, fun i x hx => up _ _ (k5 i x hx)⟩
  · intro t' b' ver hb' hv
    rcases set_get hb' with ⟨rfl, rfl⟩ | ⟨hne', hb'⟩
    · simp only [Φ']
      dsimp only at hv
      rw [if_neg (by omega)]
      exact h.fresh _ b _ hb (by omega)
    · rw [hne _ _ hne']; exact h.fresh _ b' _ hb' hv
  · intro t1 t2 b1 b2 c1 s1 c2 s2 g1 g2 l1 l2 p1 p2 hne12
    have blk : ∀ c sz, p = .blk c sz → b.st = .live ∧ Φ t b.ver = some (.blk c sz) := by
      intro c sz e
      rcases hp with ⟨hl, hp⟩ | hp
      · exact ⟨hl, by rw [hp, e]⟩
      · rw [hp] at e; cases e
    rcases set_get g1 with ⟨e1, rfl⟩ | ⟨n1, k1⟩
    · rcases set_get g2 with ⟨e2, rfl⟩ | ⟨n2, k2⟩
      · exact absurd (e1.trans e2.symm) hne12
      · subst e1
        rw [hΦt] at p1; injection p1 with p1
        rw [hne _ _ n2] at p2
        obtain ⟨q1, q2⟩ := blk _ _ p1
        exact h.inj _ _ _ _ _ _ _ _ hb k2 q1 l2 q2 p2 hne12
    · rw [hne _ _ n1] at p1
      rcases set_get g2 with ⟨e2, rfl⟩ | ⟨n2, k2⟩
      · subst e2
        rw [hΦt] at p2; injection p2 with p2
        obtain ⟨q1, q2⟩ := blk _ _ p2
        exact h.inj _ _ _ _ _ _ _ _ k1 hb l1 q1 p1 q2 hne12
      · rw [hne _ _ n2] at p2
        exact h.inj _ _ _ _ _ _ _ _ k1 k2 l1 l2 p1 p2 hne12

theorem Sim.adopt (h : Sim m w0 S0 Jo D Φ S st a w) {t : Nat} {b : Blk} (hb : st.hp[t]? = some b) {c sz : Nat} {arr : Array Value} {ty : TypeId} (hh : w.heap[c]? = some (.cells arr ty (0, 0))) (hs : arr.size = sz) {cs : List V} (hn : cs.length ≤ sz)
    (hc : ∀ i x, cs[i]? = some x → VRel Φ S w x (arr.getD i undef)) (hS : ¬ S c) (hw0 : w0.heap.size ≤ c) (hfresh : ∀ t b c' sz', st.hp[t]? = some b → b.st = .live → Φ t b.ver = some (.blk c' sz') → c' ≠ c) :
    ∃ Φ', (∀ t k p, Φ t k = some p → Φ' t k = some p) ∧ Φ' t (b.ver + 1) = some (.blk c sz) ∧ Sim m w0 S0 Jo D Φ' S { st with hp := st.hp.set t ⟨b.ver + 1, .live, cs⟩ } a w := by
  let Φ' : Plc := fun t' k => if t' = t ∧ k = b.ver + 1 then some (.blk c sz) else Φ t' k
  have hΦ : ∀ t k p, Φ t k = some p → Φ' t k = some p := by
    intro t' k p hp
    simp only [Φ']
    split
    · rename_i e; obtain ⟨rfl, rfl⟩ := e
      rw [h.fresh _ b _ hb (Nat.lt_succ_self _)] at hp; cases hp
    · exact hp
  have hΦt : Φ' t (b.ver + 1) = some (.blk c sz) := by simp [Φ']
  have hne : ∀ t' k, t' ≠ t → Φ' t' k = Φ t' k := fun t' k e => by simp [Φ', e]
  have up : ∀ x v, VRel Φ S w x v → VRel Φ' S w x v := fun x v hv => hv.mono hΦ (fun _ e => e) (fun _ _ => rfl)
  refine ⟨Φ', hΦ, hΦt, ⟨h.defers, h.size, fun t v hv => up _ _ (h.ts t v hv), ?_, ?_, ?_, h.Slt, h.Sold, h.Snew, h.frame, fun t' hm => by obtain ⟨c', sz', q1, q2⟩ := h.io t' hm; exact ⟨c', sz', by simpa [Φ'] using q1, q2⟩⟩⟩
  · intro t' b' hb'
    rcases set_get hb' with ⟨rfl, rfl⟩ | ⟨hne', hb'⟩
    · unfold BRel
      exact .inr ⟨c, sz, arr, ty, hΦt, hh, hs, hn, fun i x hx => up _ _ (hc i x hx), hS, .inr hw0⟩
    · have hB := h.hp t' b' hb'
      unfold BRel at hB ⊢
      split at hB
      · trivial
      · rcases hB with hB | ⟨c, sz, arr', ty', k1, k2, k3, k4, k5, k6, k7⟩
        · exact .inl ⟨by rw [hne _ _ hne']; exact hB.1, hB.2⟩
        · exact .inr ⟨c, sz, arr', ty', by rw [hne _ _ hne']; exact k1, k2, k3, k4, fun i x hx => up _ _ (k5 i x hx), k6, k7⟩
      · rcases hB with hB | ⟨c, sz, k1, k2, arr', ty', fz, k3, k4, k5⟩
        · exact .inl ⟨by rw [hne _ _ hne']; exact hB.1, hB.2⟩
        · exact .inr ⟨c, sz, by rw [hne _ _ hne']; exact k1, k2, arr', ty', fz, k3, k4, fun i x hx => up _ _ (k5 i x hx)⟩
  · intro t' b' ver hb' hv
    rcases set_get hb' with ⟨rfl, rfl⟩ | ⟨hne', hb'⟩
    · simp only [Φ']
      dsimp only at hv
      rw [if_neg (by omega)]
      exact h.fresh _ b _ hb (by omega)
    · rw [hne _ _ hne']; exact h.fresh _ b' _ hb' hv
  · intro t1 t2 b1 b2 c1 s1 c2 s2 g1 g2 l1 l2 p1 p2 hne12
    rcases set_get g1 with ⟨e1, rfl⟩ | ⟨n1, k1⟩
    · rcases set_get g2 with ⟨e2, rfl⟩ | ⟨n2, k2⟩
      · exact absurd (e1.trans e2.symm) hne12
      · subst e1
        rw [hΦt] at p1; injection p1 with p1; injection p1 with p1 _
        rw [hne _ _ n2] at p2
        have := hfresh _ _ _ _ k2 l2 p2
        omega
    · rw [hne _ _ n1] at p1
      rcases set_get g2 with ⟨e2, rfl⟩ | ⟨n2, k2⟩
      · subst e2
        rw [hΦt] at p2; injection p2 with p2; injection p2 with p2 _
        have := hfresh _ _ _ _ k1 l1 p1
        omega
      · rw [hne _ _ n2] at p2
        exact h.inj _ _ _ _ _ _ _ _ k1 k2 l1 l2 p1 p2 hne12

theorem give_mk (h : Sim m w0 S0 Jo D Φ S st a w) {t e : TypeId} {i : TypeInfo} {z : List V} (hu : P.underlying t = some (.slice e)) (hi : P.info? e = some i) (hz : zero? P e = some z) (h0 : 0 < i.size) (hzl : z.length = i.size)
    {s : Nat} {b : Blk} (hb : st.hp[s]? = some b) {x : Value} {n : Int} (hx : x = .int .i64 n) (hn : 0 ≤ n) (hby : i.bytes * n ≤ 281474976710656) (h63 : n ≤ 9223372036854775807) :
    Gives P m w0 S0 Jo D st a w (Instr.makeSlice t x x) (.ref s (b.ver + 1) 0 n.toNat i.size) (st.hp.set s ⟨b.ver + 1, .live, (List.replicate n.toNat z).flatten⟩) := by
  subst hx
  obtain ⟨i', u, hi', hu', rfl, hrun⟩ := zero_run hz
  rw [hi] at hi'; injection hi' with hi'; subst hi'
  have hus : u.cells.size = i.size := by simpa using hzl
  have hc : Cells Φ S w (List.replicate n.toNat (u.cells.toList.map constC)).flatten (madeCells u.cells (n.toNat * i.size)) := by
    have hh := cells_const (Φ := Φ) (S := S) (w := w) (madeCells u.cells (n.toNat * i.size))
    unfold madeCells at hh ⊢
    rw [range_zero hus h0] at hh
    rw [List.map_flatten, List.map_replicate] at hh; exact hh
  obtain ⟨Φ', _, h2, h3⟩ := h.new (ty := e) hb (cells_le hc) hc.2
  refine ⟨_, _, Φ', S, run_make w t e i u hu hi hu' .i64 .i64 n n hn (Int.le_refl _) hby h63, h3, ?_⟩
  refine .ref _ _ _ _ _ _ _ _ h2 (Nat.le_refl _) ?_
  rw [hc.1]; simp [hus]

theorem app_grow (h : Sim m w0 S0 Jo D Φ S st a w) {t ty e : TypeId} {i : TypeInfo} {z : Value} (hu : P.underlying t = some (.slice e)) (hi : P.info? e = some i) (hz : i.zero = some z) (hb0 : 0 < i.bytes) (hzl : z.cells.size = i.size)
    {s : Nat} {b : Blk} (hb : st.hp[s]? = some b) {base : Option Addr} {n cap : Nat} {cs : List V} {olds : List Value} (hol : olds.length = n * i.size) (hcl : cs.length = n * i.size)
    (hold : 0 < n → ∃ c o, base = some ⟨c, o, none⟩ ∧ ∀ j u, olds[j]? = some u → w.cell? ((⟨c, o, none⟩ : Addr).add j) = some u) (hbase : base = none → cap = 0)
    (hcs : ∀ j x, cs[j]? = some x → VRel Φ S w x (olds.getD j undef)) {v : V} {x : Value} (hv : VRel Φ S w v x) {es : List (List Pv)} (hs : sliceP st.hp i.size v = some es)
    (hg : cap < n + es.length) (hn : n ≤ cap) (hby : (n + es.length) * i.bytes ≤ 140737488355328) :
    Gives P m w0 S0 Jo D st a w (Builtin.append_ #[t, t] ty #[.slice base n cap, x]) (.ref s (b.ver + 1) 0 (n + es.length) i.size) (st.hp.set s ⟨b.ver + 1, .live, cs ++ es.flatten.map .p⟩) := by
  obtain ⟨base2, cap2, rfl, hle2, hfl, hsrc⟩ := sliceP_rel h hv hs
  have hpos : 0 < es.length := by omega
  obtain ⟨c2, o2, news, rfl, hnl, hnew, hnr⟩ := hsrc hpos
  have h63 : n + es.length ≤ 140737488355328 := Nat.le_trans (Nat.le_mul_of_pos_right _ hb0) hby
  have hfit := growslice_fits hg hby
  have hgen : ∃ (nc : Nat) (arr : Array Value), n + es.length ≤ nc ∧ arr.size = nc * i.size ∧ (∀ j, j < n * i.size → arr.getD j undef = olds.getD j undef) ∧ (∀ j, j < es.length * i.size → arr.getD (n * i.size + j) undef = news.getD j undef) ∧
      ((Builtin.append_ #[t, t] ty #[.slice base n cap, .slice (some ⟨c2, o2, none⟩) es.length cap2]).run P w = .ok (.slice (some ⟨w.heap.size, 0, none⟩) (n + es.length) nc) (w.drew.alloc (.cells arr e))) := by
    have hzs : ∀ q, (Builtin.zeroCells z.cells q).size = q * i.size := by intro q; simp [Builtin.zeroCells, hzl]
    have hge : ∀ q, n + es.length ≤ grownCap w (n + es.length) q e := fun q => by simp only [grownCap, Question.cut]; omega
    have harr : ∀ (olds : List Value), olds.length = n * i.size → ∀ nc, n + es.length ≤ nc → (olds.toArray ++ news.toArray ++ Builtin.zeroCells z.cells (nc - (n + es.length))).size = nc * i.size ∧
        (∀ j, j < n * i.size → (olds.toArray ++ news.toArray ++ Builtin.zeroCells z.cells (nc - (n + es.length))).getD j undef = olds.getD j undef) ∧
        (∀ j, j < es.length * i.size → (olds.toArray ++ news.toArray ++ Builtin.zeroCells z.cells (nc - (n + es.length))).getD (n * i.size + j) undef = news.getD j undef) := by
      intro olds hol nc hnc
      refine ⟨?_, ?_, ?_⟩
      · simp only [Array.size_append, List.size_toArray, hol, hnl, hzs, Nat.sub_mul, Nat.add_mul]
        have : (n + es.length) * i.size ≤ nc * i.size := Nat.mul_le_mul_right _ hnc
        rw [Nat.add_mul] at this
        omega
      · intro j hj
        rw [getD_of_list, List.getD]
        simp only [Array.toList_append]
        rw [List.getElem?_append_left (by simp; omega), List.getElem?_append_left (by omega)]
      · intro j hj
        rw [getD_of_list, List.getD]
        simp only [Array.toList_append]
        rw [List.getElem?_append_left (by simp; omega), List.getElem?_append_right (by omega), hol]
        congr 2; omega
    cases base with
    | none =>
      have hc0 := hbase rfl
      have hn0 : n = 0 := by omega
      subst hn0 hc0
      have ho : olds = [] := List.eq_nil_of_length_eq_zero (by simpa using hol)
      subst ho
      have hr := run_append_nil (P := P) w t ty e i z hu hi hz ⟨c2, o2, none⟩ es.length cap2 news hnl hnew hpos (by omega) (by rw [Nat.zero_add] at hby; omega)
      have hh := harr [] (by simp) (grownCap w es.length 0 e) (by simpa using hge 0)
      simp only [Nat.zero_add, Array.empty_append] at hh ⊢
      refine ⟨_, _, by simpa using hge 0, hh.1, hh.2.1, hh.2.2, ?_⟩
      simpa using hr
    | some ad =>
      have hr := run_append_grow (P := P) w t ty e i z hu hi hz ad n cap olds hol (by
        intro j v hj
        rcases Nat.eq_zero_or_pos n with h0 | h0
        · have : olds = [] := List.eq_nil_of_length_eq_zero (by rw [hol, h0]; simp)
          rw [this] at hj; simp at hj
        · obtain ⟨c, o, he, hh⟩ := hold h0
          injection he with he
          rw [he]; exact hh j v hj) ⟨c2, o2, none⟩ es.length cap2 news hnl hnew hg (by omega) hfit
      have hh := harr olds hol (grownCap w (n + es.length) cap e) (hge cap)
      exact ⟨_, _, hge cap, hh.1, hh.2.1, hh.2.2, hr⟩
  obtain ⟨nc, arr, hnc, harr, g1, g2, hrun⟩ := hgen
  have h1 : Sim m w0 S0 Jo D Φ S st a w.drew := h.drew _
  have hlen : (cs ++ es.flatten.map V.p).length = (n + es.length) * i.size := by
    rw [List.length_append, List.length_map, hcl, hfl, ← Nat.add_mul]
  have hcs' : ∀ j x, (cs ++ es.flatten.map V.p)[j]? = some x → VRel Φ S w.drew x (arr.getD j undef) := by
    intro j x hx
    rw [List.getElem?_append] at hx
    split at hx
    · rename_i hlt
      rw [g1 j (by omega)]
      exact (hcs j x hx).mono (fun _ _ _ e => e) (fun _ e => e) (fun _ _ => rfl)
    · rename_i hlt
      rw [List.getElem?_map] at hx
      cases hf : es.flatten[j - cs.length]? with
      | none => simp [hf] at hx
      | some p =>
        simp only [hf, Option.map_some, Option.some.injEq] at hx
        subst hx
        have hlt2 := (List.getElem?_eq_some_iff.1 hf).1
        have := hnr _ p hf
        have e2 := g2 (j - cs.length) (by rw [← hfl]; exact hlt2)
        rw [show n * i.size + (j - cs.length) = j by omega] at e2
        rw [e2]
        exact .p _ _ (this.mono (fun _ e => e) (fun _ _ => rfl))
  obtain ⟨Φ', _, k2, k3⟩ := h1.new (ty := e) (arr := arr) hb (by rw [hlen, harr]; exact Nat.mul_le_mul_right _ hnc) hcs'
  exact ⟨_, _, Φ', S, hrun, k3, .ref _ _ _ _ _ _ _ _ k2 hnc (by rw [harr]; omega)⟩
end
end Go.Mx
