/- Arithmetic of int: what is wrapped, is wrapped once. No condition. -/
import Derived.Test.YtonjnpefnbnohaaTxP
namespace Go.Mx
theorem w_def (n : Int) : IntKind.i64.wrap n = (n + 9223372036854775808) % 18446744073709551616 - 9223372036854775808 := by
  simp only [IntKind.wrap, IntKind.bits, IntKind.signed]; simp; omega
theorem w_add_l (a b : Int) : IntKind.i64.wrap (IntKind.i64.wrap a + b) = IntKind.i64.wrap (a + b) := by simp only [w_def]; omega
theorem w_add_r (a b : Int) : IntKind.i64.wrap (a + IntKind.i64.wrap b) = IntKind.i64.wrap (a + b) := by simp only [w_def]; omega
theorem w_sub_l (a b : Int) : IntKind.i64.wrap (IntKind.i64.wrap a - b) = IntKind.i64.wrap (a - b) := by simp only [w_def]; omega
theorem w_sub_r (a b : Int) : IntKind.i64.wrap (a - IntKind.i64.wrap b) = IntKind.i64.wrap (a - b) := by simp only [w_def]; omega
theorem w_w (a : Int) : IntKind.i64.wrap (IntKind.i64.wrap a) = IntKind.i64.wrap a := by simp only [w_def]; omega
theorem w_dist (a : Int) : ∃ k, IntKind.i64.wrap a = a + k * 18446744073709551616 := ⟨-((a + 9223372036854775808) / 18446744073709551616), by rw [w_def]; omega⟩
theorem w_same {a b k : Int} (h : a = b + k * 18446744073709551616) : IntKind.i64.wrap a = IntKind.i64.wrap b := by rw [w_def, w_def, h]; omega
theorem w_mul_l (a b : Int) : IntKind.i64.wrap (IntKind.i64.wrap a * b) = IntKind.i64.wrap (a * b) := by
  obtain ⟨k, h⟩ := w_dist a
  exact w_same (k := k * b) (by rw [h, Int.add_mul, Int.mul_right_comm])
theorem w_mul_r (a b : Int) : IntKind.i64.wrap (a * IntKind.i64.wrap b) = IntKind.i64.wrap (a * b) := by
  rw [Int.mul_comm, w_mul_l, Int.mul_comm]
theorem w_neg (a b : Int) : IntKind.i64.wrap (a + -1 * b) = IntKind.i64.wrap (a - b) := congrArg _ (by omega)
end Go.Mx
