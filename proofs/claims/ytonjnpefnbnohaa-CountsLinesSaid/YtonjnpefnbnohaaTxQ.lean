/- Arithmetic of int: what is wrapped, is wrapped once. No condition. -/
import Derived.Test.YtonjnpefnbnohaaTxP
namespace Go.Mx
theorem w_def (n : Int) : IntKind.i64.wrap n = (n + 9223372036854775808) % 18446744073709551616 - 9223372036854775808 := by
  simp only [IntKind.wrap, IntKind.bits, IntKind.signed]; simp; omega
theorem w_add_l (a b : Int) : IntKind.i64.wrap (IntKind.i64.wrap a + b) = IntKind.i64.wrap (a + b) := by simp only [w_def]; omega
theorem w_add_r (a b : Int) : IntKind.i64.wrap (a + IntKind.i64.wrap b) = IntKind.i64.wrap (a + b) := by simp only [w_def]; omega
theorem w_sub_l (a b : Int) : IntKind.i64.wrap (IntKind.i64.wrap a - b) = IntKind.i64.wrap (a - b) := by simp only [w_def]; omega
theorem w_sub_r (a b : Int) : IntKind.i64.wrap (a - IntKind.i64.wrap b) = IntKind.i64.wrap (a - b) := by simp only [w_def]; omega
theorem w_w (a : Int) : IntKind.i64.wrap (IntKind.i64.wrap a) = IntKind.i64.wrap a := by simp only [w_def]; omega
theorem w_dist (a : Int) : ∃ k, IntKind.i64.wrap a = a + k * 18446744073709551616 := ⟨-((a + 9223372036854775808) / 18446744073709551616), by rw [w_def]; omega⟩
theorem w_same {a b k : Int} (h : a = b + k * 18446744073709551616) : IntKind.i64.wrap a = IntKind.i64.wrap b := by rw [w_def, w_def, h]; omega
theorem w_mul_l (a b : Int) : IntKind.i64.wrap (IntKind.i64.wrap a * b) = IntKind.i64.wrap (a * b) := by
  obtain ⟨k, h⟩ := w_dist a
  exact w_same (k := k * b) (by rw [h, Int.add_mul, Int.mul_right_comm])
theorem w_mul_r (a b : Int) : IntKind.i64.wrap (a * IntKind.i64.wrap b) = IntKind.i64.wrap (a * b) := by
  rw [Int.mul_comm, w_mul_l, Int.mul_comm]
theorem w_neg (a b : Int) : IntKind.i64.wrap (a + -1 * b) = IntKind.i64.wrap (a - b) := congrArg _ (by omega)

theorem mul_in {x y a b : Int} (h1 : 0 ≤ x) (h2 : x ≤ a) (h3 : 0 ≤ y) (h4 : y ≤ b) : 0 ≤ x * y ∧ x * y ≤ a * b := ⟨Int.mul_nonneg h1 h3, Int.mul_le_mul h2 h4 h3 (by omega)⟩
theorem sq_lt {x y : Int} (h0 : 0 ≤ x) (h : x < y) : x * x < y * y := Int.mul_self_lt_mul_self h0 h
theorem sq_le {x y : Int} (h0 : 0 ≤ x) (h : x ≤ y) : x * x ≤ y * y := Int.mul_le_mul h h h0 (by omega)
def v_ru : Nat → Int → Int → Int
  | 0, r, _ => r
  | k + 1, r, n => if r * r ≥ n then r else v_ru k (r + 1) n
def v_rootUp (n : Int) : Int := v_ru n.toNat 0 n
theorem v_ru_spec : ∀ (k : Nat) (r n : Int), 0 ≤ r → (r = 0 ∨ (r - 1) * (r - 1) < n) → n ≤ (r + k) * (r + k) → r ≤ v_ru k r n ∧ n ≤ v_ru k r n * v_ru k r n ∧ (v_ru k r n = 0 ∨ (v_ru k r n - 1) * (v_ru k r n - 1) < n)
  | 0, r, n, h0, h1, h2 => by simp only [v_ru]; exact ⟨Int.le_refl _, by simpa using h2, h1⟩
  | k + 1, r, n, h0, h1, h2 => by
    unfold v_ru
    by_cases h : r * r ≥ n
    · rw [if_pos h]; exact ⟨Int.le_refl _, h, h1⟩
    · rw [if_neg h]
      obtain ⟨g1, g2, g3⟩ := v_ru_spec k (r + 1) n (by omega) (.inr (by rw [show r + 1 - 1 = r by omega]; omega)) (by rw [show r + 1 + (k : Int) = r + ((k + 1 : Nat) : Int) by omega]; exact h2)
      exact ⟨by omega, g2, g3⟩
theorem v_rootUp_spec {n : Int} (h : 0 ≤ n) : 0 ≤ v_rootUp n ∧ n ≤ v_rootUp n * v_rootUp n ∧ (v_rootUp n = 0 ∨ (v_rootUp n - 1) * (v_rootUp n - 1) < n) := by
  refine v_ru_spec n.toNat 0 n (Int.le_refl _) (.inl rfl) ?_
  rw [Int.zero_add, Int.toNat_of_nonneg h]
  by_cases h1 : n = 0
  · subst h1; decide
  · have := Int.mul_le_mul (show (1 : Int) ≤ n by omega) (Int.le_refl n) (by omega) (by omega)
    omega
theorem v_rootUp_is {n q : Int} (h : 0 ≤ n) (h0 : 0 ≤ q) (h1 : n ≤ q * q) (h2 : q = 0 ∨ (q - 1) * (q - 1) < n) : v_rootUp n = q := by
  obtain ⟨g0, g1, g2⟩ := v_rootUp_spec h
  rcases Int.lt_trichotomy (v_rootUp n) q with h3 | h3 | h3
  · have := sq_le g0 (show v_rootUp n ≤ q - 1 by omega)
    omega
  · exact h3
  · have := sq_le h0 (show q ≤ v_rootUp n - 1 by omega)
    omega
def v_root (n : Int) : Int := if v_rootUp n * v_rootUp n = n then v_rootUp n else v_rootUp n - 1
theorem v_root_is {n q : Int} (h0 : 0 ≤ q) (h1 : q * q ≤ n) (h2 : n < (q + 1) * (q + 1)) : v_root n = q := by
  have hn : 0 ≤ n := by have := Int.mul_nonneg h0 h0; omega
  unfold v_root
  by_cases h : q * q = n
  · have : v_rootUp n = q := v_rootUp_is hn h0 (by omega) (by
      by_cases hq : q = 0
      · exact .inl hq
      · exact .inr (by have := sq_lt (show 0 ≤ q - 1 by omega) (show q - 1 < q by omega); omega))
    rw [this, if_pos h]
  · have : v_rootUp n = q + 1 := v_rootUp_is hn (by omega) (by omega) (.inr (by rw [show q + 1 - 1 = q by omega]; omega))
    rw [this, if_neg (by omega)]; omega
end Go.Mx
