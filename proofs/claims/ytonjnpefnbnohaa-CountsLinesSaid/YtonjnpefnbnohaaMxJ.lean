/- The same for make and append. No condition. -/
import Derived.Test.YtonjnpefnbnohaaMxI
import Derived.Laws.Append
import Derived.Laws.MakeOwn
import Derived.Laws.NewBlocks
namespace Go.Mx
open Go.RowKit

section
variable {P : Program} {m : Nat} {w0 : World} {S0 Jo : Nat → Prop} {D : List Deferred} {Φ : Plc} {S : Nat → Prop} {st : St} {a : Act} {w : World}

theorem flat_length {k : Nat} : ∀ (es : List (List Pv)), (∀ e ∈ es, e.length = k) → es.flatten.length = es.length * k
  | [], _ => by simp
  | e :: es, h => by
    have := flat_length es (fun e he => h e (by simp [he]))
    simp only [List.flatten_cons, List.length_append, List.length_cons, this, h e (by simp), Nat.add_mul, Nat.one_mul]; omega

theorem flat_get {k : Nat} : ∀ (es : List (List Pv)), (∀ e ∈ es, e.length = k) → ∀ (q : Nat) (x : Pv), es.flatten[q]? = some x → ∃ i j e, es[i]? = some e ∧ e[j]? = some x ∧ q = i * k + j
  | [], _, q, x, h => by simp at h
  | e :: es, hk, q, x, h => by
    rw [List.flatten_cons, List.getElem?_append] at h
    split at h
    · exact ⟨0, q, e, rfl, h, by simp⟩
    · obtain ⟨i, j, e', h1, h2, h3⟩ := flat_get es (fun e he => hk e (by simp [he])) _ x h
      have he := hk e (by simp)
      exact ⟨i + 1, j, e', by simpa using h1, h2, by rw [Nat.add_mul, Nat.one_mul]; omega⟩

theorem chunk_flatten {α : Type} {k : Nat} : ∀ (n : Nat) (l : List α), l.length = n * k → (chunk k n l).flatten = l
  | 0, l, h => by simp at h; subst h; rfl
  | n + 1, l, h => by
    rw [Nat.add_mul, Nat.one_mul] at h
    have := chunk_flatten (k := k) n (l.drop k) (by rw [List.length_drop]; omega)
    simp only [chunk, List.flatten_cons, this, List.take_append_drop]

theorem sliceP_rel (h : Sim m w0 S0 Jo D Φ S st a w) {k : Nat} {v : V} {x : Value} (hv : VRel Φ S w v x) {es : List (List Pv)} (hs : sliceP st.hp k v = some es) :
    ∃ base cap, x = .slice base es.length cap ∧ es.length ≤ cap ∧ es.flatten.length = es.length * k ∧
      (0 < es.length → ∃ c o, ∃ news : List Value, base = some ⟨c, o, none⟩ ∧ news.length = es.length * k ∧ (∀ j u, news[j]? = some u → w.cell? ((⟨c, o, none⟩ : Addr).add j) = some u) ∧
        ∀ j p, es.flatten[j]? = some p → PRel S w p (news.getD j undef)) := by
  cases v with
  | p y =>
    cases y with
    | sl k' es' full =>
      cases es' with
      | nil =>
        simp only [sliceP, Option.some.injEq] at hs
        subst hs
        obtain ⟨b, cap, rfl, hc, _⟩ := sl_len hv
        exact ⟨b, cap, rfl, by simp, by simp, by simp⟩
      | cons e es' =>
        simp only [sliceP] at hs
        split at hs
        · rename_i hk
          subst hk
          simp only [Option.some.injEq] at hs
          subst hs
          cases hv with
          | p _ _ hp =>
            cases hp with
            | sl _ _ _ b o n cap cell hS hn h0 hc hf hk h1 h2 =>
              subst hn
              have hfl := flat_length (e :: es') hk
              refine ⟨some ⟨b, o, none⟩, cap, rfl, hc, hfl, fun _ => ⟨b, o, (List.range ((e :: es').length * k')).map (fun j => (w.cell? ⟨b, o + j, none⟩).getD undef), rfl, by simp, ?_, ?_⟩⟩
              · intro j u hu
                rw [List.getElem?_map] at hu
                by_cases hj : j < (e :: es').length * k'
                · rw [List.getElem?_range hj] at hu
                  simp only [Option.map_some, Option.some.injEq] at hu
                  have hx : (e :: es').flatten[j]? = some ((e :: es').flatten[j]'(by rw [hfl]; exact hj)) := List.getElem?_eq_getElem _
                  obtain ⟨i, l, e', g1, g2, g3⟩ := flat_get _ hk j _ hx
                  have := h1 i l e' _ g1 g2
                  rw [addr_add, ← hu, g3, this]; rfl
                · rw [List.getElem?_eq_none (by simpa using hj)] at hu; simp at hu
              · intro j p hp
                have hj : j < (e :: es').length * k' := by rw [← hfl]; exact (List.getElem?_eq_some_iff.1 hp).1
                obtain ⟨i, l, e', g1, g2, g3⟩ := flat_get _ hk j _ hp
                have e1 := h1 i l e' _ g1 g2
                have e2 := h2 i l e' _ g1 g2
                rw [List.getD, List.getElem?_map, List.getElem?_range hj]
                simp only [Option.map_some, Option.getD_some, g3, e1]
                exact e2
        · cases hs
    | _ => simp [sliceP] at hs
  | ref t ver o n k' =>
    simp only [sliceP] at hs
    split at hs
    · rename_i b hb
      split at hs
      · rename_i hc
        obtain ⟨hver, hok, rfl, hle⟩ := hc
        subst hver
        cases hps : allP ((b.cs.drop o).take (n * k')) with
        | none => simp [hps] at hs
        | some ps =>
          simp only [hps, Option.map_some, Option.some.injEq] at hs
          have hmap := allP_map hps
          have hpl : ps.length = n * k' := by
            have := congrArg List.length hmap
            simp at this; omega
          have hel : es.length = n := by rw [← hs]; exact chunk_length _ _ _
          have hefl : es.flatten = ps := by rw [← hs]; exact chunk_flatten n ps hpl
          cases hv with
          | ref _ _ _ _ _ c sz cap hΦ hn hcap =>
            obtain ⟨arr, ty, fz, k1, k2, k3⟩ := cells_at h hb hok hΦ
            refine ⟨_, cap, by rw [hel], by rw [hel]; exact hn, by rw [hefl, hel]; exact hpl, fun _ => ⟨c, o, (List.range (n * k')).map (fun j => arr.getD (o + j) undef), rfl, by simp [hel], ?_, ?_⟩⟩
            · intro j u hu
              rw [List.getElem?_map] at hu
              by_cases hj : j < n * k'
              · rw [List.getElem?_range hj] at hu
                simp only [Option.map_some, Option.some.injEq] at hu
                rw [addr_add, ← hu]
                exact cell_getD k1 (by omega)
              · rw [List.getElem?_eq_none (by simpa using hj)] at hu; simp at hu
            · intro j p hp
              rw [hefl] at hp
              have hj : j < n * k' := by rw [← hpl]; exact (List.getElem?_eq_some_iff.1 hp).1
              rw [List.getD, List.getElem?_map, List.getElem?_range hj]
              simp only [Option.map_some, Option.getD_some]
              have : b.cs[o + j]? = some (.p p) := by
                have e1 : ((b.cs.drop o).take (n * k'))[j]? = some (.p p) := by rw [hmap, List.getElem?_map, hp]; rfl
                rw [List.getElem?_take, if_pos hj, List.getElem?_drop] at e1; exact e1
              have := k3 _ _ this
              cases this with | p _ _ h => exact h
          | refv _ _ _ a0 hΦ =>
            have : es = [] := List.eq_nil_of_length_eq_zero hel
            subst this
            exact ⟨a0, 0, rfl, by simp, by simp, by simp⟩
      · cases hs
    · cases hs
  | _ => simp [sliceP] at hs

theorem bound_rel {γ : Opd → V} (hγ : ∀ x, VRel Φ S w (γ (cO x)) (a.eval x)) {d l : Int} {lo : Option Operand} (hb : bound γ d (lo.map cO) = some l) : (lo = none ∧ l = d) ∨ ∃ o k, lo = some o ∧ a.eval o = .int k l := by
  cases lo with
  | none => simp [bound] at hb; exact .inl ⟨rfl, hb.symm⟩
  | some o =>
    simp only [bound, Option.map_some] at hb
    split at hb
    · rename_i k n hg
      simp only [Option.some.injEq] at hb
      subst hb
      have := hγ o
      rw [hg] at this
      exact .inr ⟨o, k, rfl, inv_int this⟩
    · cases hb

theorem run_sliceBounds (isS : Bool) (len cap : Nat) (lo hi : Option Value) (l h : Nat) (hlo : (lo = none ∧ l = 0) ∨ ∃ k, lo = some (.int k (l : Int))) (hhi : (hi = none ∧ h = len) ∨ ∃ k, hi = some (.int k (h : Int)))
    (h1 : l ≤ h) (h2 : h ≤ cap) (w : World) : (Instr.sliceBounds isS len cap lo hi none).run P w = .ok (l, h, cap) w := by
  rcases hlo with ⟨rfl, rfl⟩ | ⟨k, rfl⟩ <;> rcases hhi with ⟨rfl, rfl⟩ | ⟨k', rfl⟩ <;>
    simp [Instr.sliceBounds, Instr.sliceBound, asIntOf, h1, h2]

theorem run_sliceAt_sl {t e : TypeId} {k : Nat} (hu : P.underlying t = some (.slice e)) (hk : sz? P e = some k) (base : Option Addr) (len cap : Nat) (lo hi : Option Value) (l h : Nat)
    (hlo : (lo = none ∧ l = 0) ∨ ∃ k, lo = some (.int k (l : Int))) (hhi : (hi = none ∧ h = len) ∨ ∃ k, hi = some (.int k (h : Int))) (h1 : l ≤ h) (h2 : h ≤ cap) (w : World) :
    (Instr.sliceAt t (.slice base len cap) lo hi none).run P w = .ok (.slice (if cap = l then base else base.map (·.add (l * k))) (h - l) (cap - l)) w := by
  simp only [Instr.sliceAt, Instr.slice, Sem.run_bind, run_underlying hu, Result.andThen_ok, run_sliceBounds true len cap lo hi l h hlo hhi h1 h2, sz_run hk]
  rfl

theorem sl_drop {k : Nat} {es : List (List Pv)} {full full' : Bool} {x : Value} (hv : VRel Φ S w (.p (.sl k es full)) x) {l h : Nat} (h1 : l ≤ h) (h2 : h ≤ es.length) (hf : full' = true → full = true ∧ h = es.length) :
    ∃ base cap, x = .slice base es.length cap ∧ es.length ≤ cap ∧ VRel Φ S w (.p (.sl k ((es.drop l).take (h - l)) full')) (.slice (if cap = l then base else base.map (·.add (l * k))) (h - l) (cap - l)) := by
  obtain ⟨base, cap, rfl, hc, hcf⟩ := sl_len hv
  refine ⟨base, cap, rfl, hc, .p _ _ ?_⟩
  have hlen : ((es.drop l).take (h - l)).length = h - l := by simp; omega
  have hcap : full' = true → cap - l = h - l := fun e => by obtain ⟨e1, e2⟩ := hf e; rw [hcf e1]; omega
  rcases Nat.eq_zero_or_pos (h - l) with h0 | h0
  · have hnil : (es.drop l).take (h - l) = [] := List.eq_nil_of_length_eq_zero (by omega)
    rw [hnil, h0]
    cases hbase : (if cap = l then base else base.map (·.add (l * k))) with
    | some ad => exact .sl0 k full' _ _ (fun e => by have := hcap e; omega)
    | none =>
      have hb : base = none := by
        split at hbase
        · exact hbase
        · cases base with
          | none => rfl
          | some _ => simp at hbase
      subst hb
      cases hv with
      | p _ _ hp => cases hp with
        | slnil => simp; exact .slnil _ _
  · cases hv with
    | p _ _ hp =>
      cases hp with
      | slnil => simp at h2; omega
      | sl0 => simp at h2; omega
      | sl _ _ _ b o n cap cell hS hn h0' hc' hf' hk g1 g2 =>
        rw [if_neg (by omega)]
        simp only [Option.map_some, addr_add]
        have hget : ∀ (i : Nat) (e : List Pv), ((es.drop l).take (h - l))[i]? = some e → es[l + i]? = some e := by
          intro i e he
          rw [List.getElem?_take] at he
          split at he
          · rwa [List.getElem?_drop] at he
          · cases he
        refine .sl k _ full' b _ _ _ (fun i j => cell (l + i) j) hS hlen h0 (by omega) hcap (fun e he => hk e (List.mem_of_mem_drop (List.mem_of_mem_take he))) ?_ ?_
        · intro i j e x he hx
          have := g1 (l + i) j e x (hget i e he) hx
          rw [Nat.add_mul] at this
          rw [← this]; congr 2; omega
        · intro i j e x he hx
          exact g2 (l + i) j e x (hget i e he) hx

theorem give_sl (h : Sim m w0 S0 Jo D Φ S st a w) {γ : Opd → V} (hγ : ∀ x, VRel Φ S w (γ (cO x)) (a.eval x)) {t e : TypeId} {k : Nat} (hu : P.underlying t = some (.slice e)) (hk : sz? P e = some k) {x : Value} {lo hi : Option Operand} :
    (∀ k' es full l hh, VRel Φ S w (.p (.sl k' es full)) x → bound γ 0 (lo.map cO) = some l → bound γ es.length (hi.map cO) = some hh → 0 ≤ l → l ≤ hh → hh ≤ es.length → (k' = k ∨ es.length = 0) →
      Gives P m w0 S0 Jo D st a w (Instr.sliceAt t x (lo.map a.eval) (hi.map a.eval) none) (.p (.sl k' ((es.drop l.toNat).take (hh.toNat - l.toNat)) (full && decide (hh = es.length)))) st.hp) ∧
    (∀ s ver o n l hh, VRel Φ S w (.ref s ver o n k) x → bound γ 0 (lo.map cO) = some l → bound γ n (hi.map cO) = some hh → 0 ≤ l → l < hh → hh ≤ n →
      Gives P m w0 S0 Jo D st a w (Instr.sliceAt t x (lo.map a.eval) (hi.map a.eval) none) (.ref s ver (o + l.toNat * k) (hh.toNat - l.toNat) k) st.hp) := by
  have hlo' : ∀ l, bound γ 0 (lo.map cO) = some l → 0 ≤ l → ((lo.map a.eval) = none ∧ l.toNat = 0) ∨ ∃ k, (lo.map a.eval) = some (.int k (l.toNat : Int)) := by
    intro l hl h0
    rcases bound_rel hγ hl with ⟨rfl, rfl⟩ | ⟨o, kk, rfl, he⟩
    · exact .inl ⟨rfl, rfl⟩
    · exact .inr ⟨kk, by simp [he, Int.toNat_of_nonneg h0]⟩
  have hhi' : ∀ (n : Nat) hh, bound γ n (hi.map cO) = some hh → 0 ≤ hh → ((hi.map a.eval) = none ∧ hh.toNat = n) ∨ ∃ k, (hi.map a.eval) = some (.int k (hh.toNat : Int)) := by
    intro n hh hl h0
    rcases bound_rel hγ hl with ⟨rfl, rfl⟩ | ⟨o, kk, rfl, he⟩
    · exact .inl ⟨rfl, by simp⟩
    · exact .inr ⟨kk, by simp [he, Int.toNat_of_nonneg h0]⟩
  constructor
  · intro k' es full l hh hx hl hhh h0 h1 h2 hkk
    obtain ⟨base, cap, rfl, hc, hv⟩ := sl_drop (full' := full && decide (hh = es.length)) hx (l := l.toNat) (h := hh.toNat) (by omega) (by omega) (fun e => by simp at e; exact ⟨e.1, by omega⟩)
    refine gives_same h (run_sliceAt_sl hu hk base es.length cap _ _ l.toNat hh.toNat (hlo' l hl h0) (hhi' _ hh hhh (by omega)) (by omega) (by omega) w) ?_
    rcases hkk with rfl | hkk
    · exact hv
    · have e1 : l.toNat = 0 := by omega
      have e2 : l.toNat * k = l.toNat * k' := by rw [e1]; simp
      rw [e2]; exact hv
  · intro s ver o n l hh hx hl hhh h0 h1 h2
    cases hx with
    | ref _ _ _ _ _ c sz cap hΦ hn hcap =>
      refine gives_same h (run_sliceAt_sl hu hk _ n cap _ _ l.toNat hh.toNat (hlo' l hl h0) (hhi' _ hh hhh (by omega)) (by omega) (by omega) w) ?_
      rw [if_neg (by omega)]
      simp only [Option.map_some, addr_add]
      refine .ref _ _ _ _ _ c sz _ hΦ (by omega) ?_
      have : l.toNat * k + (cap - l.toNat) * k = cap * k := by rw [← Nat.add_mul]; congr 1; omega
      omega
    | refv => omega

theorem give_sla (h : Sim m w0 S0 Jo D Φ S st a w) {γ : Opd → V} (hγ : ∀ x, VRel Φ S w (γ (cO x)) (a.eval x)) {t e : TypeId} {k n : Nat} (hu : P.underlying t = some (.array n e)) (hk : sz? P e = some k) {x : Value} {lo hi : Option Operand} {s : Nat} {b : Blk} {o : Nat} {l hh : Int}
    (hx : VRel Φ S w (.ptr s b.ver o) x) (hb : st.hp[s]? = some b) (hok : b.st.ok = true) (hle : o + n * k ≤ b.cs.length) (hl : bound γ 0 (lo.map cO) = some l) (hhh : bound γ n (hi.map cO) = some hh) (h0 : 0 ≤ l) (h1 : l < hh) (h2 : hh ≤ n) :
    Gives P m w0 S0 Jo D st a w (Instr.sliceAt t x (lo.map a.eval) (hi.map a.eval) none) (.ref s b.ver (o + l.toNat * k) (hh.toNat - l.toNat) k) st.hp := by
  have hlo' : ((lo.map a.eval) = none ∧ l.toNat = 0) ∨ ∃ k, (lo.map a.eval) = some (.int k (l.toNat : Int)) := by
    rcases bound_rel hγ hl with ⟨rfl, rfl⟩ | ⟨o, kk, rfl, he⟩
    · exact .inl ⟨rfl, rfl⟩
    · exact .inr ⟨kk, by simp [he, Int.toNat_of_nonneg h0]⟩
  have hhi' : ((hi.map a.eval) = none ∧ hh.toNat = n) ∨ ∃ k, (hi.map a.eval) = some (.int k (hh.toNat : Int)) := by
    rcases bound_rel hγ hhh with ⟨rfl, rfl⟩ | ⟨o, kk, rfl, he⟩
    · exact .inl ⟨rfl, by simp⟩
    · exact .inr ⟨kk, by simp [he, Int.toNat_of_nonneg (show 0 ≤ hh by omega)]⟩
  obtain ⟨c, sz, hΦ, rfl⟩ := inv_ptr hx
  obtain ⟨arr, ty, fz, k1, k2, k3⟩ := cells_at h hb hok hΦ
  have hsz : b.cs.length ≤ sz := by
    have hB := h.hp s b hb
    unfold BRel at hB
    cases hs : b.st with
    | dead => rw [hs] at hok; cases hok
    | live =>
      obtain ⟨_, _, _, _, q, _⟩ := live_of h hb hs hΦ
      exact q
    | frozen =>
      rw [hs] at hB
      rcases hB with ⟨hB, _⟩ | ⟨c', sz', q1, q2, _, _, _, q3, q4, q5⟩
      · rw [hB] at hΦ; cases hΦ
      · rw [q1] at hΦ; injection hΦ with hΦ; injection hΦ with e1 e2
        subst e1 e2
        exact q4.2
  refine gives_same h (x := .slice (some ⟨c, o + l.toNat * k, none⟩) (hh.toNat - l.toNat) (n - l.toNat)) ?_ ?_
  · simp only [Instr.sliceAt, Sem.run_bind, run_underlying hu, Result.andThen_ok, Instr.sureAddr, Sem.run_pure, run_sliceBounds false n n _ _ l.toNat hh.toNat hlo' hhi' (by omega) (by omega), sz_run hk]
    rw [if_neg (by omega), addr_add]
  · refine .ref _ _ _ _ _ c sz _ hΦ (by omega) ?_
    have : l.toNat * k + (n - l.toNat) * k = n * k := by rw [← Nat.add_mul]; congr 1; omega
    omega
end
end Go.Mx
