/- Arithmetic of int: products within bounds. No condition. -/
import Derived.Test.YtonjnpefnbnohaaTxQ
namespace Go.Mx
theorem mul_abs {x y a b : Int} (h1 : -a ≤ x) (h2 : x ≤ a) (h3 : -b ≤ y) (h4 : y ≤ b) : -(a * b) ≤ x * y ∧ x * y ≤ a * b := by
  rcases Int.le_total 0 x with hx | hx <;> rcases Int.le_total 0 y with hy | hy
  · have := mul_in hx h2 hy h4; omega
  · have := mul_in (y := -y) hx h2 (by omega) (show -y ≤ b by omega); rw [Int.mul_neg] at this; omega
  · have := mul_in (x := -x) (by omega) (show -x ≤ a by omega) hy h4; rw [Int.neg_mul] at this; omega
  · have := mul_in (x := -x) (y := -y) (by omega) (show -x ≤ a by omega) (by omega) (show -y ≤ b by omega); rw [Int.neg_mul, Int.mul_neg, Int.neg_neg] at this; omega

theorem bne0 {x : Int} (h : (x != 0) = false) : x = 0 := by simpa using h
theorem beq0 {x : Int} (h : (x == 0) = true) : x = 0 := by simpa using h
theorem v_gcd_pos_in {a b : Nat} (h : b ≠ 0) : 0 < Nat.gcd a b := Nat.gcd_pos_of_pos_right _ (by omega)
theorem w_tdiv {a b : Int} (h : -9223372036854775807 ≤ a ∧ a ≤ 9223372036854775807) : IntKind.i64.wrap (a.tdiv b) = a.tdiv b := by
  have h1 : (a.tdiv b).natAbs ≤ a.natAbs := by
    rw [Int.natAbs_tdiv]; exact Nat.div_le_self _ _
  exact wrap_id (by omega) (by omega)
end Go.Mx
