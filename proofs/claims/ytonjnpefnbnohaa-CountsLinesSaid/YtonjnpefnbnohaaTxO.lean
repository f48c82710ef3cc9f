/- Typed arguments of a law: whatever is handed in, is a value of types of its own. -/
import Derived.Test.YtonjnpefnbnohaaTxN
namespace Go.Mx
def shT : Ty → List Sh
  | .int k => [.int k]
  | .bool => [.bool]
  | .str => [.str]
  | .sl e => [.sl (shT e)]
  | .pr a b => shT a ++ shT b
  | .un => []
def Ty.ok : (t : Ty) → t.den → Prop
  | .int k, (n : Int) => k.min ≤ n ∧ n ≤ k.max
  | .bool, _ => True
  | .str, (s : ByteArray) => s.size ≤ maxLen
  | .sl e, (l : List e.den) => l.length ≤ maxLen ∧ ∀ x ∈ l, e.ok x
  | .pr a b, x => a.ok x.1 ∧ b.ok x.2
  | .un, _ => True

theorem WtL.one {q : Sh} {vs : List Pv} (h : WtL [q] vs) : ∃ p, vs = [p] ∧ Wt q p := by
  obtain ⟨h1, h2⟩ := h
  match vs, h1 with
  | [p], _ => exact ⟨p, rfl, h2 0 q p rfl rfl⟩
theorem WtL.split {a b : List Sh} {vs : List Pv} (h : WtL (a ++ b) vs) : ∃ x y, vs = x ++ y ∧ WtL a x ∧ WtL b y := by
  obtain ⟨h1, h2⟩ := h
  rw [List.length_append] at h1
  refine ⟨vs.take a.length, vs.drop a.length, (List.take_append_drop _ _).symm, ⟨by rw [List.length_take]; omega, fun i s p hs hp => ?_⟩, ⟨by rw [List.length_drop]; omega, fun i s p hs hp => ?_⟩⟩
  · have hi := (List.getElem?_eq_some_iff.1 hs).1
    rw [List.getElem?_take, if_pos hi] at hp
    exact h2 i s p (by rw [List.getElem?_append, if_pos hi]; exact hs) hp
  · rw [List.getElem?_drop] at hp
    refine h2 (a.length + i) s p ?_ hp
    rw [List.getElem?_append, if_neg (by omega), Nat.add_sub_cancel_left]; exact hs

theorem shT_len : ∀ (t : Ty), (shT t).length = t.n
  | .int _ => rfl
  | .bool => rfl
  | .str => rfl
  | .sl _ => rfl
  | .pr a b => by simp only [shT, List.length_append, shT_len a, shT_len b, Ty.n]
  | .un => rfl
theorem typed_of : ∀ (t : Ty) (vs : List Pv), WtL (shT t) vs → ∃ x : t.den, vs = t.enc x ∧ t.ok x
  | .int k, vs, h => by
    obtain ⟨p, rfl, hp⟩ := h.one
    cases hp with
    | int _ n hn =>
      simp only [Lit.wf, Bool.and_eq_true, decide_eq_true_eq] at hn
      exact ⟨n, rfl, hn⟩
  | .bool, vs, h => by
    obtain ⟨p, rfl, hp⟩ := h.one
    cases hp with
    | bool b => exact ⟨b, rfl, trivial⟩
  | .str, vs, h => by
    obtain ⟨p, rfl, hp⟩ := h.one
    cases hp with
    | str s hs => exact ⟨s, rfl, hs⟩
  | .sl e, vs, h => by
    obtain ⟨p, rfl, hp⟩ := h.one
    cases hp with
    | sl _ es h1 h2 h3 =>
      have key : ∀ es : List (List Pv), (∀ x ∈ es, WtL (shT e) x) → ∃ l : List e.den, es = l.map e.enc ∧ ∀ x ∈ l, e.ok x := by
        intro es
        induction es with
        | nil => intro _; exact ⟨[], rfl, by simp⟩
        | cons x r ih =>
          intro h
          obtain ⟨y, hy, hok⟩ := typed_of e x (h x (by simp))
          obtain ⟨l, hl, hlo⟩ := ih (fun x hx => h x (by simp [hx]))
          refine ⟨y :: l, by rw [hy, hl]; rfl, fun z hz => ?_⟩
          rcases List.mem_cons.1 hz with rfl | hz
          · exact hok
          · exact hlo z hz
      obtain ⟨l, rfl, hl⟩ := key es (fun x hx => ⟨h1 x hx, h3 x hx⟩)
      refine ⟨l, ?_, ?_, hl⟩
      · rw [shT_len]; rfl
      · simpa using h2
  | .pr a b, vs, h => by
    obtain ⟨x, y, rfl, hx, hy⟩ := h.split
    obtain ⟨u, rfl, hu⟩ := typed_of a x hx
    obtain ⟨v, rfl, hv⟩ := typed_of b y hy
    exact ⟨(u, v), rfl, hu, hv⟩
  | .un, vs, h => by
    have : vs = [] := List.length_eq_zero_iff.1 h.1
    subst this
    exact ⟨(), rfl, trivial⟩

def shP : PSh → Bool × List Sh
  | .one t => (false, shT t)
  | .agg t => (true, shT t)
  | _ => (false, [])
def okP : (p : PSh) → (tyP p).den → Prop
  | .one t, x => t.ok x
  | .agg t, x => t.ok x
  | _, _ => True
def okPs : (ps : List PSh) → (tyPs ps).den → Prop
  | [], _ => True
  | [p], x => okP p x
  | p :: q :: r, x => okP p x.1 ∧ okPs (q :: r) x.2

theorem typed_arg {p : PSh} {v : V} (h : ArgV (shP p) v) : ∃ x, v = valP p x ∧ okP p x := by
  cases p with
  | one t =>
    obtain ⟨q, p, h1, h2, rfl⟩ := h
    have h1 : shT t = [q] := h1
    obtain ⟨x, hx, hok⟩ := typed_of t [p] (by rw [h1]; exact ⟨rfl, fun i s u hs hu => by
      match i with
      | 0 => simp at hs hu; subst hs hu; exact h2
      | i + 1 => simp at hs⟩)
    exact ⟨x, by simp only [valP, ← hx], hok⟩
  | agg t =>
    obtain ⟨vs, h1, rfl⟩ := h
    obtain ⟨x, rfl, hok⟩ := typed_of t vs h1
    exact ⟨x, rfl, hok⟩
  | ptr t => obtain ⟨q, p, h1, _⟩ := h; cases h1
  | fn f ts => obtain ⟨q, p, h1, _⟩ := h; cases h1

theorem typed_args : ∀ (ps : List PSh) (us : List V), ArgsV (ps.map shP) us → ∃ x, us = valPs ps x ∧ okPs ps x
  | [], us, h => by cases h; exact ⟨(), rfl, trivial⟩
  | [p], us, h => by
    cases h with
    | cons h hs =>
      cases hs
      obtain ⟨x, rfl, hx⟩ := typed_arg h
      exact ⟨x, rfl, hx⟩
  | p :: q :: r, us, h => by
    cases h with
    | cons h hs =>
      obtain ⟨x, rfl, hx⟩ := typed_arg h
      obtain ⟨y, rfl, hy⟩ := typed_args (q :: r) _ hs
      exact ⟨(x, y), rfl, hx, hy⟩

theorem law_args {P : Program} {f : FuncId} (ps : List PSh) (h : ∀ x, okPs ps x → Ret P f (valPs ps x) (.p (.bool true))) : ∀ us, ArgsV (ps.map shP) us → Ret P f us (.p (.bool true)) := fun us hu => by
  obtain ⟨x, rfl, hx⟩ := typed_args ps us hu
  exact h x hx
end Go.Mx
