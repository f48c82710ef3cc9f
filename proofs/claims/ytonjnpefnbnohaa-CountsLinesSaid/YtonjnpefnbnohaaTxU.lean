/- Division of int, rounded down or up. No condition. -/
import Derived.Test.YtonjnpefnbnohaaTxR
namespace Go.Mx
theorem tmod_abs {a b : Int} (hb : b ≠ 0) : (a.tmod b).natAbs < b.natAbs := by
  rw [Int.natAbs_tmod]
  exact Nat.mod_lt _ (by omega)
theorem ediv_is {n b q r : Int} (hb : 0 < b) (h : n = b * q + r) (h0 : 0 ≤ r) (h1 : r < b) : n / b = q := ((Int.ediv_emod_unique hb).2 ⟨by omega, h0, h1⟩).1
theorem floor_is {n b : Int} (hn : -9223372036854775807 ≤ n ∧ n ≤ 9223372036854775807) (hb : 0 < b) : cond (decide (n.tmod b < 0)) (IntKind.i64.wrap (IntKind.i64.wrap (n.tdiv b) - 1)) (IntKind.i64.wrap (n.tdiv b)) = n / b := by
  have h1 : (n.tdiv b).natAbs ≤ n.natAbs := by
    rw [Int.natAbs_tdiv]; exact Nat.div_le_self _ _
  have h2 := tmod_abs (a := n) (b := b) (by omega)
  have h3 := Int.mul_tdiv_add_tmod n b
  rw [w_tdiv hn]
  by_cases h : n.tmod b < 0
  · rw [decide_eq_true h, cond_true, wrap_id (by omega) (by omega)]
    exact (ediv_is hb (show n = b * (n.tdiv b - 1) + (b + n.tmod b) by rw [Int.mul_sub]; omega) (by omega) (by omega)).symm
  · rw [decide_eq_false h, cond_false]
    exact (ediv_is hb (show n = b * n.tdiv b + n.tmod b by omega) (by omega) (by omega)).symm
theorem ediv_abs (n : Int) {b : Int} (hb : 0 < b) : (0 ≤ n → 0 ≤ n / b ∧ n / b ≤ n) ∧ (n ≤ 0 → n ≤ n / b ∧ n / b ≤ 0) := by
  have h1 := Int.mul_ediv_add_emod n b
  have h2 := Int.emod_nonneg n (show b ≠ 0 by omega)
  have h3 := Int.emod_lt_of_pos n hb
  refine ⟨fun h => ⟨Int.ediv_nonneg h (by omega), Int.ediv_le_self _ h⟩, fun h => ?_⟩
  have h4 : n / b ≤ 0 := by
    rcases Int.lt_or_le 0 (n / b) with h5 | h5
    · have := Int.mul_le_mul_of_nonneg_left (show 1 ≤ n / b by omega) (show 0 ≤ b by omega)
      omega
    · exact h5
  refine ⟨?_, h4⟩
  rcases Int.lt_or_le (n / b) n with h5 | h5
  · have h6 : b * (n / b) ≤ 1 * (n / b) := Int.mul_le_mul_of_nonpos_right (by omega) h4
    have h7 : b * (n / b) ≤ b * (n - 1) := Int.mul_le_mul_of_nonneg_left (by omega) (by omega)
    have h8 : b * (n - 1) ≤ 1 * (n - 1) := Int.mul_le_mul_of_nonpos_right (by omega) (by omega)
    have h9 : b * (n - 1) = b * n - b := by rw [Int.mul_sub]; omega
    have h10 : b * n ≤ 1 * n := Int.mul_le_mul_of_nonpos_right (by omega) h
    omega
  · exact h5
def cdiv (n b : Int) : Int := -((-n) / b)
theorem fdiv_le_cdiv (n : Int) {b : Int} (hb : 0 < b) : n / b ≤ cdiv n b := by
  have h1 := Int.mul_ediv_add_emod n b
  have h2 := Int.emod_nonneg n (show b ≠ 0 by omega)
  have h3 := Int.mul_ediv_add_emod (-n) b
  have h4 := Int.emod_nonneg (-n) (show b ≠ 0 by omega)
  unfold cdiv
  rcases Int.lt_or_le 0 (n / b + (-n) / b) with h5 | h5
  · have h6 := Int.mul_le_mul_of_nonneg_left (show 1 ≤ n / b + (-n) / b by omega) (show 0 ≤ b by omega)
    rw [Int.mul_add] at h6
    omega
  · omega
theorem fdiv_mono {n m b : Int} (hb : 0 < b) (h : n ≤ m) : n / b ≤ m / b := Int.ediv_le_ediv hb h
theorem cdiv_mono {n m b : Int} (hb : 0 < b) (h : n ≤ m) : cdiv n b ≤ cdiv m b := by
  have := Int.ediv_le_ediv hb (show -m ≤ -n by omega)
  unfold cdiv
  omega
theorem fdiv_le_cdiv' {n m b : Int} (hb : 0 < b) (h : n ≤ m) : n / b ≤ cdiv m b := Int.le_trans (fdiv_le_cdiv n hb) (cdiv_mono hb h)
theorem ceil_is {n b : Int} (hn : -9223372036854775807 ≤ n ∧ n ≤ 9223372036854775807) (hb : 0 < b) : IntKind.i64.wrap (0 - (IntKind.i64.wrap (0 - n)) / b) = cdiv n b := by
  rw [wrap_id (n := 0 - n) (by omega) (by omega), show 0 - n = -n by omega]
  have h := ediv_abs (-n) hb
  unfold cdiv
  rw [wrap_id (by omega) (by omega)]
  omega
theorem cdiv_abs (n : Int) {b : Int} (hb : 0 < b) : (0 ≤ n → 0 ≤ cdiv n b ∧ cdiv n b ≤ n) ∧ (n ≤ 0 → n ≤ cdiv n b ∧ cdiv n b ≤ 0) := by
  have h := ediv_abs (-n) hb
  unfold cdiv
  omega
end Go.Mx
