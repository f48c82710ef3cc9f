/- Sums of lists. No condition. -/
import Derived.Test.YtonjnpefnbnohaaTxU
namespace Go.Mx
def v_sum : List Int → Int
  | [] => 0
  | x :: r => x + v_sum r
theorem v_sum_app : ∀ (a b : List Int), v_sum (a ++ b) = v_sum a + v_sum b
  | [], b => by simp [v_sum]
  | x :: r, b => by simp only [List.cons_append, v_sum, v_sum_app r b]; omega
theorem v_sum_in : ∀ {l : List Int} {m : Int}, (∀ x ∈ l, 0 ≤ x ∧ x ≤ m) → 0 ≤ v_sum l ∧ v_sum l ≤ m * l.length
  | [], m, _ => by simp [v_sum]
  | x :: r, m, h => by
    have h1 := h x (by simp)
    have h2 := v_sum_in (l := r) (m := m) (fun y hy => h y (by simp [hy]))
    have e : m * ((x :: r).length : Int) = m * r.length + m := by rw [List.length_cons, Int.natCast_add, Int.mul_add]; simp
    simp only [v_sum]
    omega
theorem v_sum_part (l : List Int) {a b : Nat} (h : a ≤ b) : v_sum ((l.drop a).take (b - a)) = v_sum (l.take b) - v_sum (l.take a) := by
  have e : l.take b = l.take a ++ (l.drop a).take (b - a) := by
    have := List.take_add (l := l) (i := a) (j := b - a)
    rwa [show a + (b - a) = b by omega] at this
  rw [e, v_sum_app]; omega
theorem v_sum_up {l : List Int} (hl : ∀ x ∈ l, 0 ≤ x) {a b : Nat} (h : a ≤ b) : v_sum (l.take a) ≤ v_sum (l.take b) := by
  have h1 := v_sum_part l h
  have h2 : 0 ≤ v_sum ((l.drop a).take (b - a)) := by
    have key : ∀ {l : List Int}, (∀ x ∈ l, 0 ≤ x) → 0 ≤ v_sum l := by
      intro l
      induction l with
      | nil => intro _; simp [v_sum]
      | cons x r ih =>
        intro h
        have h1 := h x (by simp)
        have h2 := ih (fun y hy => h y (by simp [hy]))
        simp only [v_sum]; omega
    exact key (fun x hx => hl x (List.mem_of_mem_drop (List.mem_of_mem_take hx)))
  omega
theorem getD_mem {l : List Int} {k : Nat} (h : k < l.length) : l.getD k 0 ∈ l := by
  rw [List.getD, List.getElem?_eq_getElem h]
  exact List.getElem_mem h
theorem getD_le_sum {l : List Int} (hl : ∀ x ∈ l, 0 ≤ x) (k : Nat) : 0 ≤ l.getD k 0 ∧ l.getD k 0 ≤ v_sum l := by
  induction l generalizing k with
  | nil => simp [v_sum]
  | cons x r ih =>
    have h1 := hl x (by simp)
    have hr : ∀ y ∈ r, 0 ≤ y := fun y hy => hl y (by simp [hy])
    have h2 := ih hr 0
    simp only [v_sum]
    cases k with
    | zero => simp only [List.getD_cons_zero]; omega
    | succ k => have := ih hr k; simp only [List.getD_cons_succ]; omega
theorem v_sum_set : ∀ {l : List Int} {k : Nat} (x : Int), k < l.length → v_sum (l.set k x) = v_sum l - l.getD k 0 + x
  | [], k, x, h => by simp at h
  | y :: r, 0, x, _ => by simp only [List.set_cons_zero, v_sum, List.getD_cons_zero]; omega
  | y :: r, k + 1, x, h => by
    have := v_sum_set (l := r) (k := k) x (by simpa using h)
    simp only [List.set_cons_succ, v_sum, List.getD_cons_succ, this]; omega
theorem getDset {l : List Int} {k j : Nat} (x : Int) (h : k < l.length) : (l.set k x).getD j 0 = if j = k then x else l.getD j 0 := by
  rw [List.getD, List.getD, List.getElem?_set]
  by_cases hj : k = j
  · subst hj; simp [h]
  · rw [if_neg hj, if_neg (fun e => hj e.symm)]
def v_pick (p : Int → Bool) (i : Int) : List Int → Int
  | [] => 0
  | x :: r => (if p i = true then x else 0) + v_pick p (i + 1) r
theorem v_pick_is (p : Int → Bool) (i0 : Int) : ∀ (l : List Int) (i : Int), (∀ j : Nat, j < l.length → p (i + j) = true → l.getD j 0 ≠ 0 → i + j = i0) →
    v_pick p i l = if i ≤ i0 ∧ i0 < i + l.length ∧ p i0 = true then l.getD (i0 - i).toNat 0 else 0
  | [], i, _ => by simp only [v_pick, List.length_nil]; rw [if_neg (by omega)]
  | x :: r, i, h => by
    have ih := v_pick_is p i0 r (i + 1) (fun j hj hp hx => by
      have := h (j + 1) (by simpa using hj) (by rw [show i + ((j + 1 : Nat) : Int) = i + 1 + j by omega]; exact hp) (by simpa using hx)
      omega)
    unfold v_pick
    rw [ih]
    have hlen : ((x :: r).length : Int) = r.length + 1 := by simp
    by_cases hi : i = i0
    · subst hi
      rw [if_neg (show ¬ (i + 1 ≤ i ∧ i < i + 1 + (r.length : Int) ∧ p i = true) by omega), Int.add_zero, Int.sub_self]
      by_cases hp : p i = true
      · rw [if_pos hp, if_pos ⟨by omega, by omega, hp⟩]; rfl
      · rw [if_neg hp, if_neg (by intro hh; exact hp hh.2.2)]
    · have h0 : (if p i = true then x else 0) = 0 := by
        by_cases hp : p i = true
        · rw [if_pos hp]
          by_cases hx : x = 0
          · exact hx
          · have := h 0 (by simp) (by simpa using hp) (by simpa using hx)
            omega
        · rw [if_neg hp]
      rw [h0, Int.zero_add]
      by_cases hc : i + 1 ≤ i0 ∧ i0 < i + 1 + r.length ∧ p i0 = true
      · rw [if_pos hc, if_pos ⟨by omega, by omega, hc.2.2⟩, show (i0 - i).toNat = (i0 - (i + 1)).toNat + 1 by omega, List.getD_cons_succ]
      · rw [if_neg hc, if_neg (fun hh => hc ⟨by omega, by omega, hh.2.2⟩)]

def v_max : List Int → Int
  | [] => 0
  | x :: r => r.foldl max x
theorem foldl_max (r : List Int) : ∀ a : Int, a ≤ r.foldl max a ∧ (∀ x ∈ r, x ≤ r.foldl max a) ∧ (r.foldl max a = a ∨ r.foldl max a ∈ r) := by
  induction r with
  | nil => intro a; simp
  | cons x r ih =>
    intro a
    obtain ⟨h1, h2, h3⟩ := ih (max a x)
    simp only [List.foldl_cons]
    refine ⟨by omega, fun y hy => ?_, ?_⟩
    · rcases List.mem_cons.1 hy with rfl | hy
      · omega
      · exact h2 y hy
    · rcases h3 with h3 | h3
      · by_cases hx : a ≤ x
        · right; rw [h3, Int.max_eq_right hx]; simp
        · left; rw [h3]; omega
      · right; exact List.mem_cons_of_mem _ h3
theorem le_v_max {l : List Int} {x : Int} (h : x ∈ l) : x ≤ v_max l := by
  cases l with
  | nil => cases h
  | cons y r =>
    obtain ⟨h1, h2, _⟩ := foldl_max r y
    rcases List.mem_cons.1 h with rfl | h
    · exact h1
    · exact h2 x h
theorem v_max_mem {l : List Int} (h : l ≠ []) : v_max l ∈ l := by
  cases l with
  | nil => exact (h rfl).elim
  | cons y r =>
    rcases (foldl_max r y).2.2 with h | h
    · show r.foldl max y ∈ y :: r
      rw [h]; simp
    · exact List.mem_cons_of_mem _ h
theorem v_max_snoc {l : List Int} (e : Int) (h : l ≠ []) : v_max (l ++ [e]) = max (v_max l) e := by
  cases l with
  | nil => exact (h rfl).elim
  | cons y r => simp [v_max, List.foldl_append]
def v_idx (x : Int) (i : Int) : List Int → Int
  | [] => -1
  | y :: r => if x = y then i else v_idx x (i + 1) r
theorem v_idx_mem {x : Int} : ∀ {l : List Int} {i : Int}, x ∈ l → i ≤ v_idx x i l ∧ v_idx x i l < i + l.length ∧ l.getD (v_idx x i l - i).toNat 0 = x
  | y :: r, i, h => by
    unfold v_idx
    by_cases hx : x = y
    · rw [if_pos hx, Int.sub_self]
      exact ⟨Int.le_refl _, by simp; omega, hx.symm⟩
    · rw [if_neg hx]
      have hr : x ∈ r := by
        rcases List.mem_cons.1 h with h | h
        · exact (hx h).elim
        · exact h
      obtain ⟨h1, h2, h3⟩ := v_idx_mem (i := i + 1) hr
      refine ⟨by omega, by rw [List.length_cons]; omega, ?_⟩
      rw [show (v_idx x (i + 1) r - i).toNat = (v_idx x (i + 1) r - (i + 1)).toNat + 1 by omega, List.getD_cons_succ]
      exact h3
theorem v_idx_app {x : Int} : ∀ {l : List Int} {i : Int} (r : List Int), x ∈ l → v_idx x i (l ++ r) = v_idx x i l
  | y :: l, i, r, h => by
    simp only [List.cons_append, v_idx]
    by_cases hx : x = y
    · rw [if_pos hx, if_pos hx]
    · rw [if_neg hx, if_neg hx]
      refine v_idx_app r ?_
      rcases List.mem_cons.1 h with h | h
      · exact (hx h).elim
      · exact h
theorem v_idx_new {x : Int} : ∀ {l : List Int} {i : Int}, x ∉ l → v_idx x i (l ++ [x]) = i + l.length
  | [], i, _ => by simp [v_idx]
  | y :: l, i, h => by
    simp only [List.cons_append, v_idx]
    rw [if_neg (fun e => h (by simp [e])), v_idx_new (fun e => h (by simp [e])), List.length_cons]
    omega
theorem take_snoc {l : List Int} {j : Nat} (h : j < l.length) : l.take (j + 1) = l.take j ++ [l.getD j 0] := by
  rw [List.take_add_one, List.getElem?_eq_getElem h, List.getD, List.getElem?_eq_getElem h]; rfl
end Go.Mx
