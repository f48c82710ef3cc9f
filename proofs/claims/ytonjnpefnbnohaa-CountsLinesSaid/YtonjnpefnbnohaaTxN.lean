/- Loops of walked functions. -/
import Derived.Test.YtonjnpefnbnohaaTxM
namespace Go.Mx
theorem loop_ind {σ : Type} {body : σ → (σ → Prop) → Prop} (I : Nat → σ → Prop) (h0 : ∀ s, ¬ I 0 s) (h : ∀ n s (k : σ → Prop), I (n + 1) s → (∀ s', I n s' → k s') → body s k) : ∀ n s, I n s → loopP body n s
  | 0, s, hi => (h0 s hi).elim
  | n + 1, s, hi => h n s _ hi (loop_ind I h0 h n)
theorem drop_getD {α : Type} {l : List α} {j : Nat} (d : α) (h : j < l.length) : l.drop j = l.getD j d :: l.drop (j + 1) := by
  rw [List.drop_eq_getElem_cons h, List.getD, List.getElem?_eq_getElem h]; rfl
theorem wrap_id {n : Int} (h1 : -9223372036854775808 ≤ n) (h2 : n ≤ 9223372036854775807) : IntKind.i64.wrap n = n := m_wrap h1 h2
theorem wrap_nat {j : Nat} (h : (j : Int) ≤ 9223372036854775806) : IntKind.i64.wrap ((j : Int) + 1) = ((j + 1 : Nat) : Int) := by
  rw [wrap_id (by omega) (by omega)]; simp
theorem loop_list {α τ σ : Type} {body : σ → (σ → Prop) → Prop} (mk : Int → τ → σ) (l : List α) (d : α) (I : τ → List α → Prop)
    (hn : ∀ t k, I t [] → body (mk (l.length : Int) t) k)
    (hc : ∀ (j : Nat) (t : τ) (k : σ → Prop), j < l.length → I t (l.getD j d :: l.drop (j + 1)) → (∀ t', I t' (l.drop (j + 1)) → k (mk ((j + 1 : Nat) : Int) t')) → body (mk (j : Int) t) k) (t : τ) (h : I t l) : ∃ n, loopP body n (mk 0 t) := by
  refine ⟨l.length + 1, loop_ind (fun n s => ∃ (j : Nat) (t : τ), s = mk j t ∧ n + j = l.length + 1 ∧ j ≤ l.length ∧ I t (l.drop j)) ?_ ?_ _ _ ⟨0, t, rfl, by omega, by omega, h⟩⟩
  · rintro s ⟨j, _, _, h1, h2, _⟩; omega
  · rintro n s k ⟨j, t, rfl, h1, _, h2⟩ hk
    rcases Nat.lt_or_ge j l.length with hj | hj
    · rw [drop_getD d hj] at h2
      exact hc j t k hj h2 (fun t' h3 => hk _ ⟨j + 1, t', rfl, by omega, by omega, h3⟩)
    · have : j = l.length := by omega
      subst this
      exact hn t k (by simpa using h2)
theorem loop_list0 {α : Type} {body : Int → (Int → Prop) → Prop} (l : List α) (d : α) (I : List α → Prop)
    (hn : ∀ k, I [] → body (l.length : Int) k)
    (hc : ∀ (j : Nat) (k : Int → Prop), j < l.length → I (l.getD j d :: l.drop (j + 1)) → (I (l.drop (j + 1)) → k ((j + 1 : Nat) : Int)) → body (j : Int) k) (h : I l) : ∃ n, loopP body n (0 : Int) :=
  loop_list (τ := Unit) (fun i _ => i) l d (fun _ => I) (fun _ k h => hn k h) (fun j _ k h1 h2 h3 => hc j k h1 h2 (fun h4 => h3 () h4)) () h
end Go.Mx
