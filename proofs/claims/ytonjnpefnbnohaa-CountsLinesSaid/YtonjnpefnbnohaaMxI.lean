/- The same for the comparison of structs and arrays. No condition. -/
import Derived.Test.YtonjnpefnbnohaaMxH
import Derived.ChangeKeysEq
import Derived.Laws.StructEq
namespace Go.Mx
open Go.RowKit

section
variable {P : Program} {m : Nat} {w0 : World} {S0 Jo : Nat → Prop} {D : List Deferred} {Φ : Plc} {S : Nat → Prop} {st : St} {a : Act} {w : World}

def SubV (P : Program) (t : TypeId) (A : Array Value) (off : Nat) (x : Value) : Prop :=
  (∃ n, sz? P t = some n ∧ agg? P t = some true ∧ ∃ arr : Array Value, x = .agg arr ∧ arr.size = n ∧ ∀ i, i < n → arr[i]? = A[off + i]?) ∨ (agg? P t = some false ∧ A[off]? = some x)

theorem part_sub {arr A : Array Value} {nt off : Nat} (hs : arr.size = nt) (hA : ∀ i, i < nt → arr[i]? = A[off + i]?) {t : TypeId} {n fo : Nat} (hn : sz? P t = some n) (h0 : 0 < n) (hle : fo + n ≤ nt) {b : Bool} (hb : agg? P t = some b) (w : World) :
    ∃ x, (part t arr fo).run P w = .ok x w ∧ SubV P t A (off + fo) x := by
  cases b with
  | true =>
    refine ⟨.agg (arr.extract fo (fo + n)), by simp [part, agg_run hb, sz_run hn], .inl ⟨n, hn, hb, _, rfl, by simp; omega, fun i hi => ?_⟩⟩
    rw [show off + fo + i = off + (fo + i) by omega, ← hA (fo + i) (by omega)]
    simp [Array.getElem?_extract]
    intro h; omega
  | false =>
    have hlt : fo < arr.size := by omega
    refine ⟨arr[fo], ?_, .inr ⟨hb, ?_⟩⟩
    · have e : arr[fo]? = some arr[fo] := by simp [hlt]
      simp only [part, Sem.run_bind, agg_run hb, Result.andThen_ok, Bool.false_eq_true, if_false, e]; rfl
    · rw [← hA fo (by omega)]; simp [hlt]

theorem eqCells_append (xs ys : List V) : ∀ (l r : List (Bool × Nat)) (b : Bool), eqCells xs ys (l ++ r) = some b → ∃ b1 b2, eqCells xs ys l = some b1 ∧ eqCells xs ys r = some b2 ∧ b = (b1 && b2)
  | [], r, b, h => ⟨true, b, rfl, h, by simp⟩
  | (i, o) :: l, r, b, h => by
    simp only [List.cons_append, eqCells] at h
    split at h
    · rename_i x y hx hy
      split at h
      · rename_i c d hc hd
        simp only [Option.some.injEq] at h
        obtain ⟨b1, b2, h1, h2, h3⟩ := eqCells_append xs ys l r d hd
        refine ⟨c && b1, b2, by simp only [eqCells, hx, hy, hc, h1], h2, ?_⟩
        rw [← h, h3, Bool.and_assoc]
      · cases h
    · cases h

theorem agg_of {t : TypeId} {d : TypeDesc} (h : P.underlying t = some d) : agg? P t = some (isAggD d) := by simp [agg?, h]

theorem eq_run : ∀ (d : Nat) (t off : Nat) (l : List (Bool × Nat)), eqOffs P d t off = some l → ∀ (E : Nat) (A B : Array Value) (x y : Value), SubV P t A off x → SubV P t B off y →
    ∀ (xs ys : List V), Cells Φ S w xs A → Cells Φ S w ys B → ∀ b, eqCells xs ys l = some b → (Op.equalIn (E + d) t x y).run P w = .ok b w
  | 0, t, off, l, h, _, _, _, _, _, _, _, _, _, _, _, _, _ => by simp [eqOffs] at h
  | d + 1, t, off, l, h, E, A, B, x, y, hx, hy, xs, ys, hA, hB, b, hb => by
    have leaf : ∀ i, agg? P t = some false → l = [(i, off)] → ∃ u v, eqCell i u v = some b ∧ VRel Φ S w u x ∧ VRel Φ S w v y := by
      intro i ha hl
      subst hl
      have get : ∀ {A : Array Value} {x : Value} {xs : List V} {u : V}, SubV P t A off x → Cells Φ S w xs A → xs[off]? = some u → VRel Φ S w u x := by
        intro A x xs u hx hA hu
        rcases hx with ⟨n, _, h2, _⟩ | ⟨_, h2⟩
        · rw [ha] at h2; cases h2
        · have := hA.2 off u hu
          obtain ⟨hlt, e⟩ := Array.getElem?_eq_some_iff.1 h2
          have e2 : A.getD off undef = A[off] := by simp [Array.getD, hlt]
          rw [e2, e] at this; exact this
      simp only [eqCells] at hb
      split at hb
      · rename_i u v hu hv
        split at hb
        · rename_i c c' hc hc'
          simp only [Option.some.injEq] at hb hc'
          subst hc'
          rw [Bool.and_true] at hb
          subst hb
          exact ⟨u, v, hc, get hx hA hu, get hy hB hv⟩
        · cases hb
      · cases hb
    have big : ∀ {nt}, sz? P t = some nt → agg? P t = some true → ∃ ax ay : Array Value, x = .agg ax ∧ y = .agg ay ∧ ax.size = nt ∧ ay.size = nt ∧ (∀ i, i < nt → ax[i]? = A[off + i]?) ∧ (∀ i, i < nt → ay[i]? = B[off + i]?) := by
      intro nt hn ha
      rcases hx with ⟨n, h1, _, ax, rfl, h3, h4⟩ | ⟨h1, _⟩
      · rcases hy with ⟨n', g1, _, ay, rfl, g3, g4⟩ | ⟨g1, _⟩
        · rw [hn] at h1 g1
          simp only [Option.some.injEq] at h1 g1
          subst h1 g1
          exact ⟨ax, ay, rfl, rfl, h3, g3, h4, g4⟩
        · rw [ha] at g1; cases g1
      · rw [ha] at h1; cases h1
    simp only [eqOffs] at h
    split at h
    · rename_i k n hu hn
      simp only [Option.some.injEq] at h
      obtain ⟨u, v, hc, h1, h2⟩ := leaf true (by rw [agg_of hu]; rfl) h.symm
      unfold eqCell at hc
      split at hc
      · split at hc
        · rename_i e
          simp only [Option.some.injEq] at hc
          rw [inv_int h1, inv_int h2, ← hc, e]
          exact run_equalIn_int w _ _ _ _ _ _ hu
        · cases hc
      · rename_i e; cases e
      · cases hc
    · rename_i n hu hn
      simp only [Option.some.injEq] at h
      obtain ⟨u, v, hc, h1, h2⟩ := leaf false (by rw [agg_of hu]; rfl) h.symm
      unfold eqCell at hc
      split at hc
      · rename_i e; cases e
      · simp only [Option.some.injEq] at hc
        rw [inv_bool h1, inv_bool h2, ← hc]
        exact run_equalIn_bool w _ _ _ _ hu
      · cases hc
    · rename_i fields nt hu hn
      split at h
      · cases h
      · rename_i hst
        obtain ⟨ax, ay, rfl, rfl, h1, h2, h3, h4⟩ := big hn (by rw [agg_of hu]; rfl)
        have hf : P.fieldsOf t = fields := by simp [Program.fieldsOf, hu]
        rw [show E + (d + 1) = (E + d) + 1 by omega, run_equalIn_struct w (E + d) t ax ay (by rw [hf]; exact hu) (by simpa using hst), hf]
        have key : ∀ (fs : List Field) (l : List (Bool × Nat)), fs.foldr (fun f acc => match acc, sz? P f.type, (if f.name = "_" then none else eqOffs P d f.type (off + f.offset)) with
          | some r, some n, some l => if 0 < n ∧ f.offset + n ≤ nt then some (l ++ r) else none
          | _, _, _ => none) (some []) = some l → ∀ b, eqCells xs ys l = some b → (Op.eqFields (E + d) ax ay fs).run P w = .ok b w := by
          intro fs
          induction fs with
          | nil => intro l hl b hb; simp at hl; subst hl; simp [eqCells] at hb; subst hb; rfl
          | cons f fs ih =>
            intro l hl b hb
            simp only [List.foldr_cons] at hl
            split at hl
            · rename_i r n l' hr hn' hl'
              split at hl
              · rename_i hc
                simp only [Option.some.injEq] at hl
                subst hl
                split at hl'
                · cases hl'
                · rename_i hname
                  obtain ⟨b1, b2, e1, e2, rfl⟩ := eqCells_append xs ys l' r b hb
                  have hagg : ∃ bb, agg? P f.type = some bb := by
                    cases hq : P.underlying f.type with
                    | none => cases d <;> simp [eqOffs, hq] at hl'
                    | some dd => exact ⟨_, agg_of hq⟩
                  obtain ⟨bb, hbb⟩ := hagg
                  obtain ⟨x', p1, p2⟩ := part_sub h1 h3 hn' hc.1 hc.2 hbb w
                  obtain ⟨y', q1, q2⟩ := part_sub h2 h4 hn' hc.1 hc.2 hbb w
                  have hr1 := eq_run d f.type (off + f.offset) l' hl' E A B x' y' p2 q2 xs ys hA hB b1 e1
                  have hr2 := ih r hr b2 e2
                  simp only [Op.eqFields, ne_eq, hname, not_false_eq_true, if_true, Sem.run_bind, p1, q1, hr1, Result.andThen_ok, Sem.run_ite]
                  cases b1
                  · simp
                  · simpa using hr2
              · cases hl
            · cases hl
        exact key _ _ h b hb
    · rename_i len elem nt hu hn
      split at h
      · rename_i n hn'
        split at h
        · rename_i hc
          obtain ⟨ax, ay, rfl, rfl, h1, h2, h3, h4⟩ := big hn (by rw [agg_of hu]; rfl)
          have hi : ∃ i, P.info? elem = some i := by
            unfold sz? at hn'
            cases hq : P.info? elem with
            | none => simp [hq] at hn'
            | some i => exact ⟨i, rfl⟩
          obtain ⟨i, hi⟩ := hi
          have hcell : P.cellsOf elem = n := by
            simp [sz?, hi] at hn'; simp [Program.cellsOf, hi, hn']
          rw [show E + (d + 1) = (E + d) + 1 by omega, run_equalIn_array w (E + d) ax ay hu hi, hcell]
          have key : ∀ (is : List Nat) (l : List (Bool × Nat)), (∀ i ∈ is, i < len) → is.foldr (fun i acc => match acc, eqOffs P d elem (off + i * n) with | some r, some l => some (l ++ r) | _, _ => none) (some []) = some l →
              ∀ b, eqCells xs ys l = some b → (Op.eqItems (E + d) elem n ax ay is).run P w = .ok b w := by
            intro is
            induction is with
            | nil => intro l _ hl b hb; simp at hl; subst hl; simp [eqCells] at hb; subst hb; rfl
            | cons j is ih =>
              intro l hlt hl b hb
              simp only [List.foldr_cons] at hl
              split at hl
              · rename_i r l' hr hl'
                simp only [Option.some.injEq] at hl
                subst hl
                obtain ⟨b1, b2, e1, e2, rfl⟩ := eqCells_append xs ys l' r b hb
                have hagg : ∃ bb, agg? P elem = some bb := by
                  cases hq : P.underlying elem with
                  | none => cases d <;> simp [eqOffs, hq] at hl'
                  | some dd => exact ⟨_, agg_of hq⟩
                obtain ⟨bb, hbb⟩ := hagg
                have hj : j * n + n ≤ nt := by
                  have : (j + 1) * n ≤ len * n := Nat.mul_le_mul_right n (hlt j (by simp))
                  rw [Nat.add_mul, Nat.one_mul] at this
                  omega
                obtain ⟨x', p1, p2⟩ := part_sub h1 h3 hn' hc.1 hj hbb w
                obtain ⟨y', q1, q2⟩ := part_sub h2 h4 hn' hc.1 hj hbb w
                have hr1 := eq_run d elem (off + j * n) l' hl' E A B x' y' p2 q2 xs ys hA hB b1 e1
                have hr2 := ih r (fun i hi => hlt i (by simp [hi])) hr b2 e2
                simp only [Op.eqItems, Sem.run_bind, p1, q1, hr1, Result.andThen_ok, Sem.run_ite]
                cases b1
                · simp
                · simpa using hr2
              · cases hl
          exact key _ _ (fun i hi => by simpa using hi) h b hb
        · cases h
      · cases h
    · cases h

theorem give_eqa (h : Sim m w0 S0 Jo D Φ S st a w) {op : BinOp} {neg : Bool} (hop : (op = .eql ∧ neg = false) ∨ (op = .neq ∧ neg = true)) {t : TypeId} {x y : Operand} (hg : P.eqGuardType P.depth t = false) {l : List (Bool × Nat)} {n : Nat} (hl : eqOffs P 8 t 0 = some l) (hn : sz? P t = some n)
    {xs ys : List V} (hx : VRel Φ S w (.agg xs) (a.eval x)) (hy : VRel Φ S w (.agg ys) (a.eval y)) (hxl : xs.length = n) (hyl : ys.length = n) {b : Bool} (hb : eqCells xs ys l = some b) (ha : agg? P t = some true) :
    Gives P m w0 S0 Jo D st a w (do eqGuard op t x y (a.eval x) (a.eval y); binOp op t (a.eval x) (a.eval y)) (.p (.bool (if neg then !b else b))) st.hp := by
  obtain ⟨ax, ex, hcx⟩ := inv_agg hx
  obtain ⟨ay, ey, hcy⟩ := inv_agg hy
  rw [ex, ey]
  have s1 : SubV P t ax 0 (.agg ax) := .inl ⟨n, hn, ha, ax, rfl, by rw [hcx.1]; exact hxl, fun i _ => by simp⟩
  have s2 : SubV P t ay 0 (.agg ay) := .inl ⟨n, hn, ha, ay, rfl, by rw [hcy.1]; exact hyl, fun i _ => by simp⟩
  have hr := eq_run 8 t 0 l hl 9992 ax ay _ _ s1 s2 xs ys hcx hcy b hb
  rcases hop with ⟨rfl, rfl⟩ | ⟨rfl, rfl⟩
  · refine gives_same h (x := .bool b) ?_ (.p _ _ (.bool _))
    rw [Sem.run_bind, run_eqGuard_agg w _ t x y ax ay hg, Result.andThen_ok, run_eql_struct, hr]; rfl
  · refine gives_same h (x := .bool (!b)) ?_ (.p _ _ (.bool _))
    rw [Sem.run_bind, run_eqGuard_agg w _ t x y ax ay hg, Result.andThen_ok, run_neq_struct, hr]; rfl

theorem give_eqb (h : Sim m w0 S0 Jo D Φ S st a w) {op : BinOp} {neg : Bool} (hop : (op = .eql ∧ neg = false) ∨ (op = .neq ∧ neg = true)) {t : TypeId} {x y : Operand} (hu : P.underlying t = some .bool)
    {b c : Bool} (hx : VRel Φ S w (.p (.bool b)) (a.eval x)) (hy : VRel Φ S w (.p (.bool c)) (a.eval y)) :
    Gives P m w0 S0 Jo D st a w (do eqGuard op t x y (a.eval x) (a.eval y); binOp op t (a.eval x) (a.eval y)) (.p (.bool (if neg then !(b == c) else b == c))) st.hp := by
  rw [inv_bool hx, inv_bool hy, eqGuard_at_bool]
  rcases hop with ⟨rfl, rfl⟩ | ⟨rfl, rfl⟩
  · refine gives_same h (x := .bool (b == c)) ?_ (.p _ _ (.bool _))
    have := run_equalIn_bool w 9999 t b c hu
    simp only [binOp, Op.equal, Op.maxDepth]
    simp [this]
  · refine gives_same h (x := .bool (!(b == c))) ?_ (.p _ _ (.bool _))
    have := run_equalIn_bool w 9999 t b c hu
    simp only [binOp, Op.equal, Op.maxDepth]
    simp [this]
end
end Go.Mx
