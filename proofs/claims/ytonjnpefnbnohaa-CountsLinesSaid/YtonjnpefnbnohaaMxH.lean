/- The same for comparisons, slices, and what is small. No condition. -/
import Derived.Test.YtonjnpefnbnohaaMxG
import Derived.Laws.Small
import Derived.Laws.Slices
namespace Go.Mx
open Go.RowKit

section
variable {P : Program} {m : Nat} {w0 : World} {S0 Jo : Nat → Prop} {D : List Deferred} {Φ : Plc} {S : Nat → Prop} {st : St} {a : Act} {w : World}

theorem give_bin (h : Sim m w0 S0 Jo D Φ S st a w) {op : BinOp} {t : TypeId} {x y : Operand} {k : IntKind} {n l : Int} {r : Pv} (hx : VRel Φ S w (.p (.int k n)) (a.eval x)) (hy : VRel Φ S w (.p (.int k l)) (a.eval y))
    (hr : binI op k n l = some r) : Gives P m w0 S0 Jo D st a w (do eqGuard op t x y (a.eval x) (a.eval y); binOp op t (a.eval x) (a.eval y)) (.p r) st.hp := by
  rw [inv_int hx, inv_int hy]
  have hg : eqGuard op t x y (.int k n) (.int k l) = pure () := by cases op <;> rfl
  rw [hg]
  cases op <;> simp only [binI, Option.some.injEq] at hr <;> first
    | (cases hr; done)
    | (subst hr; refine gives_same h (x := _) (by simp [binOp, Op.intArith, Op.intCmp]; rfl) (.p _ _ ?_); constructor)
    | (split at hr
       · cases hr
       · rename_i hne
         simp only [Option.some.injEq] at hr
         subst hr
         refine gives_same h (x := _) (by simp [binOp, Op.intDiv, hne]; rfl) (.p _ _ ?_); constructor)

theorem give_unot (h : Sim m w0 S0 Jo D Φ S st a w) {x : Value} {b : Bool} (hx : VRel Φ S w (.p (.bool b)) x) : Gives P m w0 S0 Jo D st a w (Op.unary .not x) (.p (.bool !b)) st.hp := by
  rw [inv_bool hx]
  exact gives_same h (x := .bool !b) rfl (.p _ _ (.bool _))
theorem give_uneg (h : Sim m w0 S0 Jo D Φ S st a w) {x : Value} {k : IntKind} {n : Int} (hx : VRel Φ S w (.p (.int k n)) x) : Gives P m w0 S0 Jo D st a w (Op.unary .neg x) (.p (.int k (k.wrap (0 - n)))) st.hp := by
  rw [inv_int hx]
  exact gives_same h (x := .int k (k.wrap (0 - n))) rfl (.p _ _ (.int _ _))
theorem give_conv (h : Sim m w0 S0 Jo D Φ S st a w) {src dst : TypeId} {j k k' : IntKind} {n : Int} {x : Value} (hs : P.underlying src = some (.int j)) (hd : P.underlying dst = some (.int k)) (hx : VRel Φ S w (.p (.int k' n)) x) :
    Gives P m w0 S0 Jo D st a w (convert src dst x) (.p (.int k (k.wrap n))) st.hp := by
  rw [inv_int hx]
  refine gives_same h (x := .int k (k.wrap n)) ?_ (.p _ _ (.int _ _))
  simp [convert, run_underlying hs, run_underlying hd, Conv.intToInt]

theorem addr_add (b o n : Nat) : (⟨b, o, none⟩ : Addr).add n = ⟨b, o + n, none⟩ := by simp only [Addr.add]; split <;> simp_all

theorem run_fieldPlace {f : Field} {n : Nat} (hn : sz? P f.type = some (n + 1)) (b o : Nat) (w : World) : (fieldPlace ⟨b, o, none⟩ f).run P w = .ok ⟨b, o + f.offset, none⟩ w := by
  simp [fieldPlace, sz_run hn, addr_add]

theorem ipt_drop {cs : List Pv} {x : Value} (h : VRel Φ S w (.ipt cs) x) (k : Nat) : ∃ b o, x = .pointer (some ⟨b, o, none⟩) ∧ VRel Φ S w (.ipt (cs.drop k)) (.pointer (some ⟨b, o + k, none⟩)) := by
  obtain ⟨b, o, cell, rfl, hs, h1, h2⟩ := inv_ipt h
  refine ⟨b, o, rfl, .ipt _ b (o + k) (fun j => cell (k + j)) hs ?_ ?_⟩
  · intro j x hx
    rw [List.getElem?_drop] at hx
    have := h1 _ x hx
    rwa [← Nat.add_assoc] at this
  · intro j x hx
    rw [List.getElem?_drop] at hx
    exact h2 _ x hx

theorem give_fa (h : Sim m w0 S0 Jo D Φ S st a w) {t : TypeId} {fields : Array Field} {i n : Nat} {f : Field} (hu : P.underlying t = some (.struct fields)) (hf : fields[i]? = some f) (hn : sz? P f.type = some (n + 1)) {x : Value} :
    (∀ s ver o, VRel Φ S w (.ptr s ver o) x → Gives P m w0 S0 Jo D st a w (Instr.fieldAt t x i) (.ptr s ver (o + f.offset)) st.hp) ∧
    (∀ cs, VRel Φ S w (.ipt cs) x → Gives P m w0 S0 Jo D st a w (Instr.fieldAt t x i) (.ipt (cs.drop f.offset)) st.hp) := by
  constructor
  · intro s ver o hx
    obtain ⟨c, sz, hΦ, rfl⟩ := inv_ptr hx
    refine gives_same h (x := .pointer (some ⟨c, o + f.offset, none⟩)) ?_ (.ptr _ _ _ _ _ hΦ)
    simp only [Instr.fieldAt, Sem.run_bind, run_underlying hu, Result.andThen_ok, hf, Instr.sureAddr, Sem.run_pure, run_fieldPlace hn]
  · intro cs hx
    obtain ⟨b, o, rfl, h2⟩ := ipt_drop hx f.offset
    refine gives_same h (x := .pointer (some ⟨b, o + f.offset, none⟩)) ?_ h2
    simp only [Instr.fieldAt, Sem.run_bind, run_underlying hu, Result.andThen_ok, hf, Instr.sureAddr, Sem.run_pure, run_fieldPlace hn]

theorem sl_elem {k : Nat} {es : List (List Pv)} {full : Bool} {x : Value} (h : VRel Φ S w (.p (.sl k es full)) x) {n : Nat} (hn : n < es.length) :
    ∃ b o cap, x = .slice (some ⟨b, o, none⟩) es.length cap ∧ VRel Φ S w (.ipt (es.getD n [])) (.pointer (some ⟨b, o + n * k, none⟩)) := by
  cases h with
  | p _ _ h =>
    cases h with
    | slnil => simp at hn
    | sl0 => simp at hn
    | sl _ _ _ b o n' cap cell hs hn' h0 hc hf hk h1 h2 =>
      subst hn'
      have e : es[n]? = some (es.getD n []) := by simp [List.getD, hn]
      refine ⟨b, o, cap, rfl, .ipt _ b _ (cell n) hs ?_ ?_⟩
      · intro j x hx
        have := h1 n j _ x e hx
        rwa [← Nat.add_assoc] at this
      · intro j x hx; exact h2 n j _ x e hx

theorem give_ia (h : Sim m w0 S0 Jo D Φ S st a w) {t e : TypeId} {k : Nat} (hu : P.underlying t = some (.slice e)) (hk : sz? P e = some k) {x y : Value} {kk : IntKind} {n : Int} (hy : VRel Φ S w (.p (.int kk n)) y) (h0 : 0 ≤ n) :
    (∀ es full, VRel Φ S w (.p (.sl k es full)) x → n < es.length → Gives P m w0 S0 Jo D st a w (Instr.indexAt t x y) (.ipt (es.getD n.toNat [])) st.hp) ∧
    (∀ s ver o len, VRel Φ S w (.ref s ver o len k) x → n < len → Gives P m w0 S0 Jo D st a w (Instr.indexAt t x y) (.ptr s ver (o + n.toNat * k)) st.hp) := by
  rw [inv_int hy]
  constructor
  · intro es full hx hn
    obtain ⟨b, o, cap, rfl, h2⟩ := sl_elem hx (n := n.toNat) (by omega)
    refine gives_same h (x := .pointer (some ⟨b, o + n.toNat * k, none⟩)) ?_ h2
    simp [Instr.indexAt, asIntOf, run_underlying hu, h0, hn, sz_run hk, addr_add]
  · intro s ver o len hx hn
    cases hx with
    | ref _ _ _ _ _ c sz cap hΦ hn' hc =>
      refine gives_same h (x := .pointer (some ⟨c, o + n.toNat * k, none⟩)) ?_ (.ptr _ _ _ _ _ hΦ)
      simp [Instr.indexAt, asIntOf, run_underlying hu, h0, hn, sz_run hk, addr_add]
    | refv => omega

theorem give_iaa (h : Sim m w0 S0 Jo D Φ S st a w) {t e : TypeId} {k len : Nat} (hu : P.underlying t = some (.array len e)) (hk : sz? P e = some k) {x y : Value} {kk : IntKind} {n : Int} (hy : VRel Φ S w (.p (.int kk n)) y) (h0 : 0 ≤ n) (hn : n < len) :
    (∀ s ver o, VRel Φ S w (.ptr s ver o) x → Gives P m w0 S0 Jo D st a w (Instr.indexAt t x y) (.ptr s ver (o + n.toNat * k)) st.hp) ∧
    (∀ cs, VRel Φ S w (.ipt cs) x → Gives P m w0 S0 Jo D st a w (Instr.indexAt t x y) (.ipt (cs.drop (n.toNat * k))) st.hp) := by
  rw [inv_int hy]
  constructor
  · intro s ver o hx
    obtain ⟨c, sz, hΦ, rfl⟩ := inv_ptr hx
    refine gives_same h (x := .pointer (some ⟨c, o + n.toNat * k, none⟩)) ?_ (.ptr _ _ _ _ _ hΦ)
    simp [Instr.indexAt, asIntOf, run_underlying hu, h0, hn, sz_run hk, addr_add, Instr.sureAddr]
  · intro cs hx
    obtain ⟨b, o, rfl, h2⟩ := ipt_drop hx (n.toNat * k)
    refine gives_same h (x := .pointer (some ⟨b, o + n.toNat * k, none⟩)) ?_ h2
    simp [Instr.indexAt, asIntOf, run_underlying hu, h0, hn, sz_run hk, addr_add, Instr.sureAddr]

theorem part_run {t : TypeId} {n off : Nat} {arr : Array Value} {cs : List V} (hc : Cells Φ S w cs arr) {b : Bool} (ha : agg? P t = some b) (hn : sz? P t = some n) {v : V} (hv : part? cs off (if b then some n else none) = some v) :
    ∃ x, (part t arr off).run P w = .ok x w ∧ VRel Φ S w v x := by
  cases b with
  | true =>
    simp only [if_true, part?] at hv
    split at hv
    · rename_i hle
      simp only [Option.some.injEq] at hv
      subst hv
      refine ⟨.agg (arr.extract off (off + n)), by simp [part, agg_run ha, sz_run hn], .agg _ _ ?_ ?_⟩
      · simp [hc.1]; omega
      · intro i c hi
        rw [List.getElem?_take] at hi
        split at hi
        · rename_i hlt
          rw [List.getElem?_drop] at hi
          have h2 := hc.2 _ c hi
          have hlt2 := (List.getElem?_eq_some_iff.1 hi).1
          rw [getD_of_list] at h2 ⊢
          have e : (arr.extract off (off + n)).toList[i]? = arr.toList[off + i]? := by
            simp [hlt]
          rw [e]; exact h2
        · cases hi
    · cases hv
  | false =>
    simp only [Bool.false_eq_true, if_false, part?] at hv
    have hlt := (List.getElem?_eq_some_iff.1 hv).1
    rw [← hc.1] at hlt
    have hv2 := hc.2 off v hv
    have e : arr[off]? = some arr[off] := by simp [hlt]
    have e2 : arr.getD off undef = arr[off] := by simp [Array.getD, hlt]
    rw [e2] at hv2
    exact ⟨arr[off], by simp only [part, Sem.run_bind, agg_run ha, Result.andThen_ok, Bool.false_eq_true, if_false, e]; rfl, hv2⟩

theorem give_field (h : Sim m w0 S0 Jo D Φ S st a w) {t : TypeId} {fields : Array Field} {i n : Nat} {f : Field} {b : Bool} (hu : P.underlying t = some (.struct fields)) (hf : fields[i]? = some f) (ha : agg? P f.type = some b) (hn : sz? P f.type = some n)
    {x : Value} {cs : List V} (hx : VRel Φ S w (.agg cs) x) {v : V} (hv : part? cs f.offset (if b then some n else none) = some v) : Gives P m w0 S0 Jo D st a w (Instr.field t x i) v st.hp := by
  obtain ⟨arr, rfl, hc⟩ := inv_agg hx
  obtain ⟨y, h1, h2⟩ := part_run hc ha hn hv
  refine gives_same h (x := y) ?_ h2
  simp [Instr.field, run_underlying hu, hf, asAgg, h1]

theorem give_idx (h : Sim m w0 S0 Jo D Φ S st a w) {t e : TypeId} {len k : Nat} {b : Bool} (hu : P.underlying t = some (.array len e)) (ha : agg? P e = some b) (hk : sz? P e = some k)
    {x y : Value} {cs : List V} (hx : VRel Φ S w (.agg cs) x) {kk : IntKind} {n : Int} (hy : VRel Φ S w (.p (.int kk n)) y) (h0 : 0 ≤ n) (hn : n < len) {v : V} (hv : part? cs (n.toNat * k) (if b then some k else none) = some v) :
    Gives P m w0 S0 Jo D st a w (Instr.index t x y) v st.hp := by
  obtain ⟨arr, rfl, hc⟩ := inv_agg hx
  rw [inv_int hy]
  obtain ⟨z, h1, h2⟩ := part_run hc ha hk hv
  refine gives_same h (x := z) ?_ h2
  simp [Instr.index, asIntOf, run_underlying hu, h0, hn, sz_run hk, h1]

theorem give_ext (h : Sim m w0 S0 Jo D Φ S st a w) {i : Nat} {x : Value} {vs : List V} (hx : VRel Φ S w (.tup vs) x) {v : V} (hv : vs[i]? = some v) : Gives P m w0 S0 Jo D st a w (Instr.extract x i) v st.hp := by
  obtain ⟨arr, rfl, hc⟩ := inv_tup hx
  have hlt := (List.getElem?_eq_some_iff.1 hv).1
  rw [← hc.1] at hlt
  have hv2 := hc.2 i v hv
  have e : arr[i]? = some arr[i] := by simp [hlt]
  have e2 : arr.getD i undef = arr[i] := by simp [Array.getD, hlt]
  rw [e2] at hv2
  exact gives_same h (x := arr[i]) (by simp only [Instr.extract, e]; rfl) hv2

theorem sl_len {k : Nat} {es : List (List Pv)} {full : Bool} {x : Value} (h : VRel Φ S w (.p (.sl k es full)) x) : ∃ b cap, x = .slice b es.length cap ∧ es.length ≤ cap ∧ (full = true → cap = es.length) := by
  cases h with
  | p _ _ h =>
    cases h with
    | slnil => exact ⟨_, _, rfl, Nat.le_refl _, fun _ => rfl⟩
    | sl0 _ _ a cap h => exact ⟨_, _, rfl, Nat.zero_le _, h⟩
    | sl _ _ _ b o n' cap cell hs hn' h0 hc hf hk h1 h2 => subst hn'; exact ⟨_, _, rfl, hc, hf⟩
theorem ref_len {t ver o n k : Nat} {x : Value} (h : VRel Φ S w (.ref t ver o n k) x) : ∃ b cap, x = .slice b n cap := by
  cases h with
  | ref => exact ⟨_, _, rfl⟩
  | refv => exact ⟨_, _, rfl⟩

theorem give_len (h : Sim m w0 S0 Jo D Φ S st a w) {t ty : TypeId} {x : Value} :
    (∀ e k es full, P.underlying t = some (.slice e) → VRel Φ S w (.p (.sl k es full)) x → Gives P m w0 S0 Jo D st a w (Builtin.len_ #[t] ty #[x]) (.p (.int .i64 es.length)) st.hp) ∧
    (∀ e s ver o n k, P.underlying t = some (.slice e) → VRel Φ S w (.ref s ver o n k) x → Gives P m w0 S0 Jo D st a w (Builtin.len_ #[t] ty #[x]) (.p (.int .i64 n)) st.hp) ∧
    (∀ s, P.underlying t = some .string → VRel Φ S w (.p (.str s)) x → Gives P m w0 S0 Jo D st a w (Builtin.len_ #[t] ty #[x]) (.p (.int .i64 s.size)) st.hp) := by
  refine ⟨fun e k es full hu hx => ?_, fun e s ver o n k hu hx => ?_, fun s hu hx => ?_⟩
  · obtain ⟨b, cap, rfl, _⟩ := sl_len hx
    refine gives_same h (x := .int .i64 es.length) ?_ (.p _ _ (.int _ _))
    simp [Builtin.len_, run_underlying hu, goInt]
  · obtain ⟨b, cap, rfl⟩ := ref_len hx
    refine gives_same h (x := .int .i64 n) ?_ (.p _ _ (.int _ _))
    simp [Builtin.len_, run_underlying hu, goInt]
  · rw [inv_str hx]
    refine gives_same h (x := .int .i64 s.size) ?_ (.p _ _ (.int _ _))
    simp [Builtin.len_, run_underlying hu, goInt]

theorem give_mm (h : Sim m w0 S0 Jo D Φ S st a w) {ts : Array TypeId} {ty : TypeId} {x y : Value} {k k' : IntKind} {n l : Int} (hx : VRel Φ S w (.p (.int k n)) x) (hy : VRel Φ S w (.p (.int k' l)) y) :
    Gives P m w0 S0 Jo D st a w (Builtin.max_ ts ty #[x, y]) (.p (.int k (if l > n then l else n))) st.hp ∧ Gives P m w0 S0 Jo D st a w (Builtin.min_ ts ty #[x, y]) (.p (.int k (if l < n then l else n))) st.hp := by
  rw [inv_int hx, inv_int hy]
  exact ⟨gives_same h (run_max_int2 w ts ty k k' n l) (.p _ _ (.int _ _)), gives_same h (run_min_int2 w ts ty k k' n l) (.p _ _ (.int _ _))⟩

theorem give_clo (h : Sim m w0 S0 Jo D Φ S st a w) {γ : Opd → V} (hγ : ∀ x, VRel Φ S w (γ (cO x)) (a.eval x)) {f : FuncId} {caps : Array Operand} : Gives P m w0 S0 Jo D st a w (Instr.makeFunc (.func f) #[] (caps.map a.eval)) (.clo f ((caps.toList.map cO).map γ)) st.hp := by
  refine gives_same h (x := .func (.func f) #[] (caps.map a.eval)) rfl (.clo _ _ _ (by simp) ?_)
  intro i c hi
  rw [List.map_map, List.getElem?_map] at hi
  cases e : caps.toList[i]? with
  | none => simp [e] at hi
  | some o =>
    simp only [e, Option.map_some, Function.comp, Option.some.injEq] at hi
    subst hi
    have : (caps.map a.eval).getD i undef = a.eval o := by rw [getD_of_list]; simp [e]
    rw [this]; exact hγ o
end
end Go.Mx
