/- CountsUndone: the given statement is proved: at every input the law returns true, and the input reads as it did. No condition. -/
import Derived.Test.YtonjnpefnbnohaaWalkCountsUndone
import Derived.Test.YtonjnpefnbnohaaTxV
import Derived.Test.YtonjnpefnbnohaaRows
import Derived.ProofKit
namespace Go.Proofs.Ytonjnpefnbnohaa
open Go Go.Mx
set_option maxRecDepth 100000
theorem few_of {p0 : CR} (h : (!(s_law06_fewKnots p0)) = false) : p0.hs.length ≤ 10 := by
  have h' : decide ((p0.hs.length : Int) ≤ 10) = true := by simpa [s_law06_fewKnots] using h
  have := of_decide_eq_true h'
  omega
theorem hz (x : Int) : (x == 0) = !(x != 0) := by simp [bne]
theorem floor_eq {n b : Int} (hn : -9223372036854775807 ≤ n ∧ n ≤ 9223372036854775807) (hb : 0 < b) : s_counts_floor n b = n / b := floor_is hn hb
theorem ceil_eq {n b : Int} (hn : -9223372036854775807 ≤ n ∧ n ≤ 9223372036854775807) (hb : 0 < b) : s_counts_ceil n b = cdiv n b := by
  rw [← ceil_is hn hb]
  unfold s_counts_ceil
  have e : IntKind.i64.wrap (0 - n) = -n := by rw [wrap_id (by omega) (by omega)]; omega
  rw [e, floor_eq (by omega) hb]
theorem rounded_eq {n m b : Int} (hn : -9223372036854775807 ≤ n ∧ n ≤ 9223372036854775807) (hm : -9223372036854775807 ≤ m ∧ m ≤ 9223372036854775807) (hb : 0 < b) : s_counts_rounded (n, m) b = (n / b, cdiv m b) := by
  unfold s_counts_rounded
  rw [floor_eq hn hb, ceil_eq hm hb]
/-- A quotient within bounds. -/
theorem fdiv_in {n d m : Int} (hd : 0 < d) (h : v_in (m * d) n) : v_in m (n / d) ∧ v_in m (cdiv n d) := by
  unfold v_in at *
  have h1 := fdiv_mono hd h.1
  have h2 := fdiv_mono hd h.2
  have h3 := cdiv_mono hd h.1
  have h4 := cdiv_mono hd h.2
  have e1 : -(m * d) / d = -m := by rw [← Int.neg_mul]; exact Int.mul_ediv_cancel _ (by omega)
  have e2 : m * d / d = m := Int.mul_ediv_cancel _ (by omega)
  have e3 : cdiv (-(m * d)) d = -m := by unfold cdiv; rw [Int.neg_neg, e2]
  have e4 : cdiv (m * d) d = m := by unfold cdiv; rw [e1, Int.neg_neg]
  omega

/-- A number times a range, a row times ranges, a matrix times ranges by a number: all exact. -/
def mulR (n : Int) (x : Int × Int) : Int × Int := if n < 0 then (n * x.2, n * x.1) else (n * x.1, n * x.2)
def rowR (n : Int × Int × Int) (l : R3) : Int × Int := ((mulR n.1 l.1).1 + (mulR n.2.1 l.2.1).1 + (mulR n.2.2 l.2.2).1, (mulR n.1 l.1).2 + (mulR n.2.1 l.2.1).2 + (mulR n.2.2 l.2.2).2)
def roundR (x : Int × Int) (d : Int) : Int × Int := (x.1 / d, cdiv x.2 d)
def prodR (m : M3) (l : R3) (d : Int) : R3 := (roundR (rowR m.1 l) d, roundR (rowR m.2.1 l) d, roundR (rowR m.2.2 l) d)
def dot (n v : Int × Int × Int) : Int := n.1 * v.1 + n.2.1 * v.2.1 + n.2.2 * v.2.2
theorem mulR_in {n a b : Int} {x : Int × Int} (hn : v_in a n) (h1 : v_in b x.1) (h2 : v_in b x.2) (ha : 0 ≤ a) (hb : 0 ≤ b) : v_in (a * b) (mulR n x).1 ∧ v_in (a * b) (mulR n x).2 := by
  have g1 := mul_abs (x := n) (y := x.1) hn.1 hn.2 h1.1 h1.2
  have g2 := mul_abs (x := n) (y := x.2) hn.1 hn.2 h2.1 h2.2
  unfold mulR v_in
  split <;> simp only <;> omega
theorem mulR_mem {n a : Int} {x : Int × Int} (h1 : x.1 ≤ a) (h2 : a ≤ x.2) : (mulR n x).1 ≤ n * a ∧ n * a ≤ (mulR n x).2 := by
  unfold mulR
  split
  · rename_i h
    exact ⟨Int.mul_le_mul_of_nonpos_left (by omega) h2, Int.mul_le_mul_of_nonpos_left (by omega) h1⟩
  · exact ⟨Int.mul_le_mul_of_nonneg_left h1 (by omega), Int.mul_le_mul_of_nonneg_left h2 (by omega)⟩
theorem mulR_mono {n : Int} {x y : Int × Int} (h1 : y.1 ≤ x.1) (h2 : x.2 ≤ y.2) (h3 : x.1 ≤ x.2) : (mulR n y).1 ≤ (mulR n x).1 ∧ (mulR n x).1 ≤ (mulR n x).2 ∧ (mulR n x).2 ≤ (mulR n y).2 := by
  unfold mulR
  split
  · rename_i h
    exact ⟨Int.mul_le_mul_of_nonpos_left (by omega) h2, Int.mul_le_mul_of_nonpos_left (by omega) h3, Int.mul_le_mul_of_nonpos_left (by omega) h1⟩
  · exact ⟨Int.mul_le_mul_of_nonneg_left h1 (by omega), Int.mul_le_mul_of_nonneg_left h3 (by omega), Int.mul_le_mul_of_nonneg_left h2 (by omega)⟩
theorem rowR_mem {n v : Int × Int × Int} {l : R3} (h0 : l.1.1 ≤ v.1 ∧ v.1 ≤ l.1.2) (h1 : l.2.1.1 ≤ v.2.1 ∧ v.2.1 ≤ l.2.1.2) (h2 : l.2.2.1 ≤ v.2.2 ∧ v.2.2 ≤ l.2.2.2) : (rowR n l).1 ≤ dot n v ∧ dot n v ≤ (rowR n l).2 := by
  have g0 := mulR_mem (n := n.1) h0.1 h0.2
  have g1 := mulR_mem (n := n.2.1) h1.1 h1.2
  have g2 := mulR_mem (n := n.2.2) h2.1 h2.2
  unfold rowR dot
  exact ⟨by simp only; omega, by simp only; omega⟩
theorem rowR_mono {n : Int × Int × Int} {l k : R3} (h0 : k.1.1 ≤ l.1.1 ∧ l.1.2 ≤ k.1.2 ∧ l.1.1 ≤ l.1.2) (h1 : k.2.1.1 ≤ l.2.1.1 ∧ l.2.1.2 ≤ k.2.1.2 ∧ l.2.1.1 ≤ l.2.1.2) (h2 : k.2.2.1 ≤ l.2.2.1 ∧ l.2.2.2 ≤ k.2.2.2 ∧ l.2.2.1 ≤ l.2.2.2) : (rowR n k).1 ≤ (rowR n l).1 ∧ (rowR n l).1 ≤ (rowR n l).2 ∧ (rowR n l).2 ≤ (rowR n k).2 := by
  have g0 := mulR_mono (n := n.1) h0.1 h0.2.1 h0.2.2
  have g1 := mulR_mono (n := n.2.1) h1.1 h1.2.1 h1.2.2
  have g2 := mulR_mono (n := n.2.2) h2.1 h2.2.1 h2.2.2
  unfold rowR
  exact ⟨by simp only; omega, by simp only; omega, by simp only; omega⟩
theorem roundR_mono {x y : Int × Int} {d : Int} (hd : 0 < d) (h : y.1 ≤ x.1 ∧ x.1 ≤ x.2 ∧ x.2 ≤ y.2) : (roundR y d).1 ≤ (roundR x d).1 ∧ (roundR x d).1 ≤ (roundR x d).2 ∧ (roundR x d).2 ≤ (roundR y d).2 :=
  ⟨fdiv_mono hd h.1, fdiv_le_cdiv' hd h.2.1, cdiv_mono hd h.2.2⟩
theorem roundR_mem {x : Int × Int} {a d : Int} (hd : 0 < d) (h : x.1 ≤ d * a ∧ d * a ≤ x.2) : (roundR x d).1 ≤ a ∧ a ≤ (roundR x d).2 := by
  have h1 := fdiv_mono hd h.1
  have h2 := cdiv_mono hd h.2
  have e1 : d * a / d = a := Int.mul_ediv_cancel_left _ (by omega)
  have e2 : cdiv (d * a) d = a := by unfold cdiv; rw [← Int.mul_neg, Int.mul_ediv_cancel_left _ (by omega)]; omega
  unfold roundR
  exact ⟨by simp only; omega, by simp only; omega⟩
/-- What is rounded encloses what was divided. -/
theorem roundR_wide {x : Int × Int} {d : Int} (hd : 0 < d) : d * (roundR x d).1 ≤ x.1 ∧ x.2 ≤ d * (roundR x d).2 := by
  have h1 := Int.mul_ediv_self_le (x := x.1) (k := d) (by omega)
  have h2 := Int.mul_ediv_self_le (x := -x.2) (k := d) (by omega)
  unfold roundR cdiv
  refine ⟨h1, ?_⟩
  simp only
  rw [Int.mul_neg]; omega
theorem v_gcd_dvd (a b : Int) : v_gcd a b ∣ a ∧ v_gcd a b ∣ b := ⟨Int.gcd_dvd_left _ _, Int.gcd_dvd_right _ _⟩
theorem div_dvd (x : CI) : (v_div x ∣ x.1.1.1 ∧ v_div x ∣ x.1.1.2.1 ∧ v_div x ∣ x.1.1.2.2) ∧ (v_div x ∣ x.1.2.1.1 ∧ v_div x ∣ x.1.2.1.2.1 ∧ v_div x ∣ x.1.2.1.2.2) ∧ (v_div x ∣ x.1.2.2.1 ∧ v_div x ∣ x.1.2.2.2.1 ∧ v_div x ∣ x.1.2.2.2.2) ∧ v_div x ∣ x.2 := by
  have h1 := v_gcd_dvd x.2 x.1.1.1
  have h2 := v_gcd_dvd (v_gcd x.2 x.1.1.1) x.1.1.2.1
  have h3 := v_gcd_dvd (v_gcd (v_gcd x.2 x.1.1.1) x.1.1.2.1) x.1.1.2.2
  have h4 := v_gcd_dvd (v_gcd (v_gcd (v_gcd x.2 x.1.1.1) x.1.1.2.1) x.1.1.2.2) x.1.2.1.1
  have h5 := v_gcd_dvd (v_gcd (v_gcd (v_gcd (v_gcd x.2 x.1.1.1) x.1.1.2.1) x.1.1.2.2) x.1.2.1.1) x.1.2.1.2.1
  have h6 := v_gcd_dvd (v_gcd (v_gcd (v_gcd (v_gcd (v_gcd x.2 x.1.1.1) x.1.1.2.1) x.1.1.2.2) x.1.2.1.1) x.1.2.1.2.1) x.1.2.1.2.2
  have h7 := v_gcd_dvd (v_gcd (v_gcd (v_gcd (v_gcd (v_gcd (v_gcd x.2 x.1.1.1) x.1.1.2.1) x.1.1.2.2) x.1.2.1.1) x.1.2.1.2.1) x.1.2.1.2.2) x.1.2.2.1
  have h8 := v_gcd_dvd (v_gcd (v_gcd (v_gcd (v_gcd (v_gcd (v_gcd (v_gcd x.2 x.1.1.1) x.1.1.2.1) x.1.1.2.2) x.1.2.1.1) x.1.2.1.2.1) x.1.2.1.2.2) x.1.2.2.1) x.1.2.2.2.1
  have h9 := v_gcd_dvd (v_gcd (v_gcd (v_gcd (v_gcd (v_gcd (v_gcd (v_gcd (v_gcd x.2 x.1.1.1) x.1.1.2.1) x.1.1.2.2) x.1.2.1.1) x.1.2.1.2.1) x.1.2.1.2.2) x.1.2.2.1) x.1.2.2.2.1) x.1.2.2.2.2
  have k8 := Int.dvd_trans h9.1 h8.1
  have k7 := Int.dvd_trans k8 h7.1
  have k6 := Int.dvd_trans k7 h6.1
  have k5 := Int.dvd_trans k6 h5.1
  have k4 := Int.dvd_trans k5 h4.1
  have k3 := Int.dvd_trans k4 h3.1
  have k2 := Int.dvd_trans k3 h2.1
  have k1 := Int.dvd_trans k2 h1.1
  exact ⟨⟨Int.dvd_trans k2 h1.2, Int.dvd_trans k3 h2.2, Int.dvd_trans k4 h3.2⟩, ⟨Int.dvd_trans k5 h4.2, Int.dvd_trans k6 h5.2, Int.dvd_trans k7 h6.2⟩, ⟨Int.dvd_trans k8 h7.2, Int.dvd_trans h9.1 h8.2, h9.2⟩, k1⟩
/-- A row times a number. -/
def rowM (g : Int) (r : Int × Int × Int) : Int × Int × Int := (g * r.1, g * r.2.1, g * r.2.2)
theorem lowest_mul (x : CI) : rowM (v_div x) (v_lowest x).1.1 = x.1.1 ∧ rowM (v_div x) (v_lowest x).1.2.1 = x.1.2.1 ∧ rowM (v_div x) (v_lowest x).1.2.2 = x.1.2.2 ∧ v_div x * (v_lowest x).2 = x.2 := by
  obtain ⟨⟨a0, a1, a2⟩, ⟨b0, b1, b2⟩, ⟨c0, c1, c2⟩, d⟩ := div_dvd x
  have k : ∀ {n : Int}, v_div x ∣ n → v_div x * n.tdiv (v_div x) = n := fun h => Int.mul_tdiv_cancel' h
  refine ⟨?_, ?_, ?_, k d⟩
  · exact Prod.ext (k a0) (Prod.ext (k a1) (k a2))
  · exact Prod.ext (k b0) (Prod.ext (k b1) (k b2))
  · exact Prod.ext (k c0) (Prod.ext (k c1) (k c2))
/-- What a number of at least 1 times another one is within. -/
theorem in_of_mul {g n m : Int} (hg : 1 ≤ g) (h : v_in m (g * n)) : v_in m n := by
  unfold v_in at *
  rcases Int.le_total 0 n with h0 | h0
  · have := Int.mul_le_mul_of_nonneg_right hg h0; rw [Int.one_mul] at this; omega
  · have := Int.mul_le_mul_of_nonneg_right (c := -n) hg (by omega); rw [Int.one_mul, Int.mul_neg] at this; omega

/-- A matrix times values. -/
def mulV (m : M3) (v : Int × Int × Int) : Int × Int × Int := (dot m.1 v, dot m.2.1 v, dot m.2.2 v)
theorem cof_mul (m : M3) (v : Int × Int × Int) : mulV (v_cof m) (mulV m v) = rowM (v_det m) v := by
  obtain ⟨⟨a, b, c⟩, ⟨d, e, f⟩, ⟨g, k, i⟩⟩ := m
  obtain ⟨x, y, z⟩ := v
  simp only [mulV, dot, rowM, v_det, v_cof]
  refine Prod.ext ?_ (Prod.ext ?_ ?_) <;> simp only <;> grind
theorem mul_cof (m : M3) (v : Int × Int × Int) : mulV m (mulV (v_cof m) v) = rowM (v_det m) v := by
  obtain ⟨⟨a, b, c⟩, ⟨d, e, f⟩, ⟨g, k, i⟩⟩ := m
  obtain ⟨x, y, z⟩ := v
  simp only [mulV, dot, rowM, v_det, v_cof]
  refine Prod.ext ?_ (Prod.ext ?_ ?_) <;> simp only <;> grind
theorem dot_rowM (g : Int) (n v : Int × Int × Int) : dot (rowM g n) v = g * dot n v := by
  simp only [dot, rowM, Int.mul_add, Int.mul_assoc]
theorem dot_rowM' (g : Int) (n v : Int × Int × Int) : dot n (rowM g v) = g * dot n v := by
  simp only [dot, rowM, Int.mul_add, Int.mul_left_comm]
/-- The numbers of the inverse times what was divided out. -/
structure v_lows (m : M3) (x : CI) (g : Int) : Prop where
  pos : 1 ≤ g
  r0 : rowM g x.1.1 = rowM 1000 (v_cof m).1
  r1 : rowM g x.1.2.1 = rowM 1000 (v_cof m).2.1
  r2 : rowM g x.1.2.2 = rowM 1000 (v_cof m).2.2
  den : g * x.2 = v_det m
theorem inv_lows {r : CR} (h : v_rules r) : v_lows r.2.2.2.2.2.2.2.1 (v_inv r) (v_div (v_inv0 r.2.2.2.2.2.2.2.1)) := by
  have d := (tx_inv0 (tx_mat h)).den
  have l := lowest_mul (v_inv0 r.2.2.2.2.2.2.2.1)
  exact ⟨(v_div_in d.1).1, l.1, l.2.1, l.2.2.1, l.2.2.2⟩
theorem lows_dot {m : M3} {x : CI} {g : Int} (h : v_lows m x g) (v : Int × Int × Int) : g * dot x.1.1 v = 1000 * dot (v_cof m).1 v ∧ g * dot x.1.2.1 v = 1000 * dot (v_cof m).2.1 v ∧ g * dot x.1.2.2 v = 1000 * dot (v_cof m).2.2 v :=
  ⟨by rw [← dot_rowM, h.r0, dot_rowM], by rw [← dot_rowM, h.r1, dot_rowM], by rw [← dot_rowM, h.r2, dot_rowM]⟩
theorem cancel_g {g a b : Int} (hg : 1 ≤ g) (h : g * a = g * b) : a = b := Int.eq_of_mul_eq_mul_left (by omega) h
/-- The inverse times the matrix, and the matrix times the inverse, are 1000 times the denominator. -/
theorem inv_mul {m : M3} {x : CI} {g : Int} (h : v_lows m x g) (v : Int × Int × Int) : mulV x.1 (mulV m v) = rowM (1000 * x.2) v := by
  have l := lows_dot h (mulV m v)
  have c := cof_mul m v
  have hd := h.den
  have c0 : dot (v_cof m).1 (mulV m v) = v_det m * v.1 := congrArg (·.1) c
  have c1 : dot (v_cof m).2.1 (mulV m v) = v_det m * v.2.1 := congrArg (·.2.1) c
  have c2 : dot (v_cof m).2.2 (mulV m v) = v_det m * v.2.2 := congrArg (·.2.2) c
  refine Prod.ext (cancel_g h.pos ?_) (Prod.ext (cancel_g h.pos ?_) (cancel_g h.pos ?_))
  · show g * dot x.1.1 (mulV m v) = g * (1000 * x.2 * v.1)
    rw [l.1, c0, ← hd]; grind
  · show g * dot x.1.2.1 (mulV m v) = g * (1000 * x.2 * v.2.1)
    rw [l.2.1, c1, ← hd]; grind
  · show g * dot x.1.2.2 (mulV m v) = g * (1000 * x.2 * v.2.2)
    rw [l.2.2, c2, ← hd]; grind
theorem mulV_rowM (m : M3) (g : Int) (v : Int × Int × Int) : mulV m (rowM g v) = rowM g (mulV m v) := by
  unfold mulV; rw [dot_rowM', dot_rowM', dot_rowM']; rfl
theorem lows_mulV {m : M3} {x : CI} {g : Int} (h : v_lows m x g) (v : Int × Int × Int) : rowM g (mulV x.1 v) = rowM 1000 (mulV (v_cof m) v) := by
  have l := lows_dot h v
  exact Prod.ext l.1 (Prod.ext l.2.1 l.2.2)
theorem mul_inv {m : M3} {x : CI} {g : Int} (h : v_lows m x g) (v : Int × Int × Int) : mulV m (mulV x.1 v) = rowM (1000 * x.2) v := by
  have e : rowM g (mulV m (mulV x.1 v)) = rowM g (rowM (1000 * x.2) v) := by
    rw [← mulV_rowM, lows_mulV h, mulV_rowM, mul_cof, ← h.den]
    refine Prod.ext ?_ (Prod.ext ?_ ?_) <;> simp only [rowM] <;> grind
  have e0 := congrArg (·.1) e
  have e1 := congrArg (·.2.1) e
  have e2 := congrArg (·.2.2) e
  exact Prod.ext (cancel_g h.pos e0) (Prod.ext (cancel_g h.pos e1) (cancel_g h.pos e2))
/-- The columns of a matrix add up to 1000 each: so do values that it mixes. -/
theorem sum_mul {m : M3} (h : v_mat m) (v : Int × Int × Int) : (mulV m v).1 + (mulV m v).2.1 + (mulV m v).2.2 = 1000 * (v.1 + v.2.1 + v.2.2) := by
  have s0 := h.c0.all
  have s1 := h.c1.all
  have s2 := h.c2.all
  obtain ⟨⟨a, b, c⟩, ⟨d, e, f⟩, ⟨g, k, i⟩⟩ := m
  obtain ⟨x, y, z⟩ := v
  simp only at s0 s1 s2
  simp only [mulV, dot]
  have ha : a = 1000 - d - g := by omega
  have hb : b = 1000 - e - k := by omega
  have hc : c = 1000 - f - i := by omega
  subst ha hb hc
  grind
theorem sum_inv {m : M3} {x : CI} {g : Int} (hm : v_mat m) (h : v_lows m x g) (v : Int × Int × Int) : (mulV x.1 v).1 + (mulV x.1 v).2.1 + (mulV x.1 v).2.2 = x.2 * (v.1 + v.2.1 + v.2.2) := by
  have e := sum_mul hm (mulV x.1 v)
  rw [mul_inv h] at e
  simp only [rowM] at e
  have e' : 1000 * (x.2 * (v.1 + v.2.1 + v.2.2)) = 1000 * ((mulV x.1 v).1 + (mulV x.1 v).2.1 + (mulV x.1 v).2.2) := by rw [← e]; grind
  omega
theorem inv_den {m : M3} {x : CI} {g : Int} (hm : v_mat m) (h : v_lows m x g) : 1 ≤ x.2 := by
  have d := tx_det hm
  have e := h.den
  have p := h.pos
  rcases Int.lt_or_le 0 x.2 with h0 | h0
  · omega
  · have := Int.mul_le_mul_of_nonneg_left (c := g) h0 (by omega)
    rw [Int.mul_zero] at this; omega
theorem inv_in {m : M3} {x : CI} {g : Int} (hm : v_mat m) (h : v_lows m x g) : v_row 1000000000 x.1.1 ∧ v_row 1000000000 x.1.2.1 ∧ v_row 1000000000 x.1.2.2 := by
  obtain ⟨⟨a0, a1, a2⟩, ⟨b0, b1, b2⟩, ⟨c0, c1, c2⟩⟩ := tx_cof hm
  have k : ∀ {n c : Int}, g * n = 1000 * c → v_in 1000000 c → v_in 1000000000 n := fun {n c} e hc => in_of_mul h.pos (by rw [e]; unfold v_in at *; omega)
  have e0 := h.r0
  have e1 := h.r1
  have e2 := h.r2
  exact ⟨⟨k (congrArg (·.1) e0) a0, k (congrArg (·.2.1) e0) a1, k (congrArg (·.2.2) e0) a2⟩, ⟨k (congrArg (·.1) e1) b0, k (congrArg (·.2.1) e1) b1, k (congrArg (·.2.2) e1) b2⟩, ⟨k (congrArg (·.1) e2) c0, k (congrArg (·.2.1) e2) c1, k (congrArg (·.2.2) e2) c2⟩⟩
/-- The products of two columns of shares, one taken from the other, times values. -/
theorem cross_in {p q v : Int × Int × Int} {b : Int} (hb : 0 ≤ b) (p0 : 0 ≤ p.1) (p1 : 0 ≤ p.2.1) (p2 : 0 ≤ p.2.2) (ps : p.1 + p.2.1 + p.2.2 = 1000) (q0 : 0 ≤ q.1) (q1 : 0 ≤ q.2.1) (q2 : 0 ≤ q.2.2) (qs : q.1 + q.2.1 + q.2.2 = 1000) (v0 : v_in b v.1) (v1 : v_in b v.2.1) (v2 : v_in b v.2.2) :
    v_in (1000000 * b) (dot (p.2.1 * q.2.2 - p.2.2 * q.2.1, p.2.2 * q.1 - p.1 * q.2.2, p.1 * q.2.1 - p.2.1 * q.1) v) := by
  obtain ⟨p, r, s⟩ := p
  obtain ⟨q, t, u⟩ := q
  obtain ⟨x, y, z⟩ := v
  simp only at *
  have key : ∀ {k w : Int}, 0 ≤ k → v_in b w → -(k * b) ≤ k * w ∧ k * w ≤ k * b := by
    intro k w hk hw
    have h1 := Int.mul_le_mul_of_nonneg_left hw.1 hk
    have h2 := Int.mul_le_mul_of_nonneg_left hw.2 hk
    rw [Int.mul_neg] at h1
    exact ⟨h1, h2⟩
  have e : (p + r + s) * (q + t + u) * b = 1000000 * b := by rw [ps, qs]; rfl
  have e2 : (p + r + s) * (q + t + u) * b = p * q * b + p * t * b + p * u * b + r * q * b + r * t * b + r * u * b + s * q * b + s * t * b + s * u * b := by grind
  have e3 : dot (r * u - s * t, s * q - p * u, p * t - r * q) (x, y, z) = r * u * x - s * t * x + s * q * y - p * u * y + p * t * z - r * q * z := by simp only [dot]; grind
  have a1 := key (Int.mul_nonneg p1 q2) v0
  have a2 := key (Int.mul_nonneg p2 q1) v0
  have a3 := key (Int.mul_nonneg p2 q0) v1
  have a4 := key (Int.mul_nonneg p0 q2) v1
  have a5 := key (Int.mul_nonneg p0 q1) v2
  have a6 := key (Int.mul_nonneg p1 q0) v2
  have b1 := Int.mul_nonneg (Int.mul_nonneg p0 q0) hb
  have b2 := Int.mul_nonneg (Int.mul_nonneg p1 q1) hb
  have b3 := Int.mul_nonneg (Int.mul_nonneg p2 q2) hb
  rw [e3]
  unfold v_in
  omega
theorem cof_in {m : M3} (h : v_mat m) {v : Int × Int × Int} {b : Int} (hb : 0 ≤ b) (v0 : v_in b v.1) (v1 : v_in b v.2.1) (v2 : v_in b v.2.2) : v_in (1000000 * b) (dot (v_cof m).1 v) ∧ v_in (1000000 * b) (dot (v_cof m).2.1 v) ∧ v_in (1000000 * b) (dot (v_cof m).2.2 v) := by
  obtain ⟨⟨a, b', c⟩, ⟨d, e, f⟩, ⟨g, k, i⟩⟩ := m
  obtain ⟨⟨a0, d0, g0, s0, _⟩, ⟨b0, e0, k0, s1, _⟩, ⟨c0, f0, i0, s2, _⟩⟩ := h
  simp only at a0 d0 g0 s0 b0 e0 k0 s1 c0 f0 i0 s2
  have h1 := cross_in (p := (b', e, k)) (q := (c, f, i)) hb b0.1 e0.1 k0.1 s1 c0.1 f0.1 i0.1 s2 v0 v1 v2
  have h2 := cross_in (p := (c, f, i)) (q := (a, d, g)) hb c0.1 f0.1 i0.1 s2 a0.1 d0.1 g0.1 s0 v0 v1 v2
  have h3 := cross_in (p := (a, d, g)) (q := (b', e, k)) hb a0.1 d0.1 g0.1 s0 b0.1 e0.1 k0.1 s1 v0 v1 v2
  refine ⟨?_, ?_, ?_⟩
  · have : dot (v_cof ((a, b', c), (d, e, f), (g, k, i))).1 v = dot (e * i - k * f, k * c - b' * i, b' * f - e * c) v := by
      simp only [v_cof, dot]; grind
    rw [this]; exact h1
  · have : dot (v_cof ((a, b', c), (d, e, f), (g, k, i))).2.1 v = dot (f * g - i * d, i * a - c * g, c * d - f * a) v := by
      simp only [v_cof, dot]; grind
    rw [this]; exact h2
  · have : dot (v_cof ((a, b', c), (d, e, f), (g, k, i))).2.2 v = dot (d * k - g * e, g * b' - a * k, a * e - d * b') v := by
      simp only [v_cof, dot]; grind
    rw [this]; exact h3
theorem det_le {m : M3} (h : v_mat m) : v_det m ≤ 1000000000 := by
  obtain ⟨⟨a, b, c⟩, ⟨d, e, f⟩, ⟨g, k, i⟩⟩ := m
  obtain ⟨⟨a0, d0, g0, s0, o0⟩, ⟨b0, e0, k0, s1, o1⟩, ⟨c0, f0, i0, s2, o2⟩⟩ := h
  simp only at a0 d0 g0 s0 o0 b0 e0 k0 s1 o1 c0 f0 i0 s2 o2
  have hd : v_det ((a, b, c), (d, e, f), (g, k, i)) = 1000 * (e * i - e * g - d * i - f * k + f * g + d * k) := by
    have ha : a = 1000 - d - g := by omega
    have hb : b = 1000 - e - k := by omega
    have hc : c = 1000 - f - i := by omega
    subst ha hb hc
    simp only [v_det, v_cof]
    grind
  rw [hd]
  have p1 : e * i ≤ (1000 - k) * (1000 - f) := Int.mul_le_mul (by omega) (by omega) (by omega) (by omega)
  have p2 : (1000 - k) * (1000 - f) = 1000000 - 1000 * k - 1000 * f + f * k := by grind
  have p3 := mul_in e0.1 e0.2 g0.1 g0.2
  have p4 := mul_in d0.1 d0.2 i0.1 i0.2
  have p5 : f * g ≤ f * 400 := Int.mul_le_mul_of_nonneg_left (by omega) f0.1
  have p6 : d * k ≤ 400 * k := Int.mul_le_mul_of_nonneg_right (by omega) k0.1
  omega
/-- What is stripped of values of some size. -/
theorem inv_dot_in {m : M3} {x : CI} {g : Int} (hm : v_mat m) (h : v_lows m x g) {v : Int × Int × Int} {b c : Int} (hb : 0 ≤ b) (v0 : v_in b v.1) (v1 : v_in b v.2.1) (v2 : v_in b v.2.2) (hc : 1000000000 * b ≤ 120000000 * c) : v_in (c * x.2) (dot x.1.1 v) ∧ v_in (c * x.2) (dot x.1.2.1 v) ∧ v_in (c * x.2) (dot x.1.2.2 v) := by
  have l := lows_dot h v
  have q := cof_in hm hb v0 v1 v2
  have d := (tx_det hm).1
  have p := h.pos
  have e : g * (c * x.2) = c * v_det m := by rw [← h.den]; grind
  have e2 : 120000000 * c ≤ c * v_det m := by rw [Int.mul_comm]; exact Int.mul_le_mul_of_nonneg_left d (by omega)
  have k : ∀ {n k : Int}, g * n = 1000 * k → v_in (1000000 * b) k → v_in (c * x.2) n := by
    intro n k h1 h2
    unfold v_in at *
    have h3 : g * n ≤ g * (c * x.2) := by omega
    have h4 : g * (-(c * x.2)) ≤ g * n := by rw [Int.mul_neg]; omega
    exact ⟨Int.le_of_mul_le_mul_left h4 (by omega), Int.le_of_mul_le_mul_left h3 (by omega)⟩
  exact ⟨k l.1 q.1, k l.2.1 q.2.1, k l.2.2 q.2.2⟩
structure v_r3 (b : Int) (l : R3) : Prop where
  a0 : v_in b l.1.1
  a1 : v_in b l.1.2
  b0 : v_in b l.2.1.1
  b1 : v_in b l.2.1.2
  c0 : v_in b l.2.2.1
  c1 : v_in b l.2.2.2
theorem mulR_pick {b : Int} (n : Int) {x : Int × Int} (h1 : v_in b x.1) (h2 : v_in b x.2) : (∃ v, v_in b v ∧ (mulR n x).1 = n * v) ∧ ∃ v, v_in b v ∧ (mulR n x).2 = n * v := by
  unfold mulR
  split
  · exact ⟨⟨_, h2, rfl⟩, ⟨_, h1, rfl⟩⟩
  · exact ⟨⟨_, h1, rfl⟩, ⟨_, h2, rfl⟩⟩
theorem rowR_pick {b : Int} (n : Int × Int × Int) {l : R3} (h : v_r3 b l) : (∃ v : Int × Int × Int, (v_in b v.1 ∧ v_in b v.2.1 ∧ v_in b v.2.2) ∧ (rowR n l).1 = dot n v) ∧ ∃ v : Int × Int × Int, (v_in b v.1 ∧ v_in b v.2.1 ∧ v_in b v.2.2) ∧ (rowR n l).2 = dot n v := by
  obtain ⟨⟨a, a1, a2⟩, a', a3, a4⟩ := mulR_pick n.1 h.a0 h.a1
  obtain ⟨⟨c, c1, c2⟩, c', c3, c4⟩ := mulR_pick n.2.1 h.b0 h.b1
  obtain ⟨⟨d, d1, d2⟩, d', d3, d4⟩ := mulR_pick n.2.2 h.c0 h.c1
  unfold rowR dot
  exact ⟨⟨(a, c, d), ⟨a1, c1, d1⟩, by simp only [a2, c2, d2]⟩, ⟨(a', c', d'), ⟨a3, c3, d3⟩, by simp only [a4, c4, d4]⟩⟩
/-- Stripped values of ranges of some size. -/
theorem prodR_inv_in {m : M3} {x : CI} {g : Int} (hm : v_mat m) (h : v_lows m x g) {l : R3} {b c : Int} (hb : 0 ≤ b) (hl : v_r3 b l) (hc : 1000000000 * b ≤ 120000000 * c) : v_r3 c (prodR x.1 l x.2) := by
  have hd := inv_den hm h
  obtain ⟨⟨v, v0, v1⟩, w, w0, w1⟩ := rowR_pick x.1.1 hl
  obtain ⟨⟨v', v0', v1'⟩, w', w0', w1'⟩ := rowR_pick x.1.2.1 hl
  obtain ⟨⟨v'', v0'', v1''⟩, w'', w0'', w1''⟩ := rowR_pick x.1.2.2 hl
  have a := (inv_dot_in hm h hb v0.1 v0.2.1 v0.2.2 hc).1
  have a' := (inv_dot_in hm h hb w0.1 w0.2.1 w0.2.2 hc).1
  have e := (inv_dot_in hm h hb v0'.1 v0'.2.1 v0'.2.2 hc).2.1
  have e' := (inv_dot_in hm h hb w0'.1 w0'.2.1 w0'.2.2 hc).2.1
  have f := (inv_dot_in hm h hb v0''.1 v0''.2.1 v0''.2.2 hc).2.2
  have f' := (inv_dot_in hm h hb w0''.1 w0''.2.1 w0''.2.2 hc).2.2
  rw [← v1] at a; rw [← w1] at a'; rw [← v1'] at e; rw [← w1'] at e'; rw [← v1''] at f; rw [← w1''] at f'
  exact ⟨(fdiv_in (by omega) a).1, (fdiv_in (by omega) a').2, (fdiv_in (by omega) e).1, (fdiv_in (by omega) e').2, (fdiv_in (by omega) f).1, (fdiv_in (by omega) f').2⟩

/-- The code's product, where nothing wraps. -/
theorem times_eq {x : Int × Int} {n a b : Int} (hn : v_in a n) (h1 : v_in b x.1) (h2 : v_in b x.2) (ha : 0 ≤ a) (hb : 0 ≤ b) (hab : a * b ≤ 3000000000000000000) : s_counts_times x n = mulR n x := by
  have g1 := mul_abs (x := n) (y := x.1) hn.1 hn.2 h1.1 h1.2
  have g2 := mul_abs (x := n) (y := x.2) hn.1 hn.2 h2.1 h2.2
  unfold s_counts_times mulR
  rw [wrap_id (n := n * x.1) (by omega) (by omega), wrap_id (n := n * x.2) (by omega) (by omega)]
  by_cases h : n < 0
  · rw [if_pos h, decide_eq_true h]; rfl
  · rw [if_neg h, decide_eq_false h]; rfl
theorem row_eq {n : Int × Int × Int} {l : R3} {a b : Int} (hn : v_row a n) (hl : v_r3 b l) (ha : 0 ≤ a) (hb : 0 ≤ b) (hab : a * b ≤ 3000000000000000000) : s_counts_sum (s_counts_sum (s_counts_sum (0, 0) (s_counts_times l.1 n.1)) (s_counts_times l.2.1 n.2.1)) (s_counts_times l.2.2 n.2.2) = rowR n l ∧ v_in 9000000000000000000 (rowR n l).1 ∧ v_in 9000000000000000000 (rowR n l).2 := by
  have q0 := mulR_in hn.a hl.a0 hl.a1 ha hb
  have q1 := mulR_in hn.b hl.b0 hl.b1 ha hb
  have q2 := mulR_in hn.c hl.c0 hl.c1 ha hb
  rw [times_eq hn.a hl.a0 hl.a1 ha hb hab, times_eq hn.b hl.b0 hl.b1 ha hb hab, times_eq hn.c hl.c0 hl.c1 ha hb hab]
  unfold v_in at *
  unfold s_counts_sum rowR
  simp only [Int.zero_add]
  refine ⟨?_, by omega, by omega⟩
  rw [wrap_id (n := (mulR n.1 l.1).1) (by omega) (by omega), wrap_id (n := (mulR n.1 l.1).2) (by omega) (by omega), wrap_id (n := (mulR n.1 l.1).1 + (mulR n.2.1 l.2.1).1) (by omega) (by omega), wrap_id (n := (mulR n.1 l.1).2 + (mulR n.2.1 l.2.1).2) (by omega) (by omega), wrap_id (by omega) (by omega), wrap_id (by omega) (by omega)]
theorem product_eq {m : M3} {l : R3} {d a b : Int} (h0 : v_row a m.1) (h1 : v_row a m.2.1) (h2 : v_row a m.2.2) (hl : v_r3 b l) (ha : 0 ≤ a) (hb : 0 ≤ b) (hab : a * b ≤ 3000000000000000000) (hd : 0 < d) : s_counts_product m l d = prodR m l d := by
  have r0 := row_eq h0 hl ha hb hab
  have r1 := row_eq h1 hl ha hb hab
  have r2 := row_eq h2 hl ha hb hab
  unfold v_in at *
  unfold s_counts_product prodR roundR
  rw [r0.1, r1.1, r2.1]
  rw [show rowR m.1 l = ((rowR m.1 l).1, (rowR m.1 l).2) from rfl, show rowR m.2.1 l = ((rowR m.2.1 l).1, (rowR m.2.1 l).2) from rfl, show rowR m.2.2 l = ((rowR m.2.2 l).1, (rowR m.2.2 l).2) from rfl]
  rw [rounded_eq (by omega) (by omega) hd, rounded_eq (by omega) (by omega) hd, rounded_eq (by omega) (by omega) hd]
theorem stripped_eq {r : CR} (h : v_rules r) {l : R3} (hl : v_r3 1000000000 l) : s_counts_rules_stripped r l = prodR (v_inv r).1 l (v_inv r).2 := by
  have i := inv_in (tx_mat h) (inv_lows h)
  exact product_eq i.1 i.2.1 i.2.2 hl (by omega) (by omega) (by omega) (by have := tx_invden h; omega)

structure v_ord (l : R3) : Prop where
  a : l.1.1 ≤ l.1.2
  b : l.2.1.1 ≤ l.2.1.2
  c : l.2.2.1 ≤ l.2.2.2
/-- Values of some size are valid. -/
theorem val_ok {x : Int × Int} (h1 : v_in 1000000000 x.1) (h2 : v_in 1000000000 x.2) (h3 : x.1 ≤ x.2) : s_counts_valueErr x = 0 := by
  unfold v_in at *
  unfold s_counts_valueErr s_counts_isValue s_counts_within
  rw [decide_eq_true (by omega : -1000000000 ≤ x.1), decide_eq_true (by omega : x.1 ≤ 1000000000), decide_eq_true (by omega : -1000000000 ≤ x.2), decide_eq_true (by omega : x.2 ≤ 1000000000), decide_eq_true h3]
  rfl
theorem vals_ok {l : R3} (h : v_r3 1000000000 l) (o : v_ord l) : v_vals l = 0 := by
  unfold v_vals
  rw [val_ok h.a0 h.a1 o.a, val_ok h.b0 h.b1 o.b, val_ok h.c0 h.c1 o.c]
  rfl
theorem v_r3.mono {b c : Int} {l : R3} (h : v_r3 b l) (hbc : b ≤ c) : v_r3 c l := by
  obtain ⟨a0, a1, b0, b1, c0, c1⟩ := h
  unfold v_in at *
  exact ⟨by unfold v_in; omega, by unfold v_in; omega, by unfold v_in; omega, by unfold v_in; omega, by unfold v_in; omega, by unfold v_in; omega⟩

/-- Ranges of one number each. -/
def ptR (v : Int × Int × Int) : R3 := ((v.1, v.1), (v.2.1, v.2.1), (v.2.2, v.2.2))
theorem mulR_pt (n a : Int) : mulR n (a, a) = (n * a, n * a) := by unfold mulR; split <;> rfl
theorem rowR_pt (n v : Int × Int × Int) : rowR n (ptR v) = (dot n v, dot n v) := by
  unfold rowR ptR dot; simp only [mulR_pt]
def sclR (c : Int) (x : Int × Int) : Int × Int := (c * x.1, c * x.2)
theorem mulR_scl (n c : Int) (x : Int × Int) : mulR n (sclR c x) = (c * (mulR n x).1, c * (mulR n x).2) := by
  unfold mulR sclR; split <;> simp only [Int.mul_left_comm]
theorem rowR_scl (n : Int × Int × Int) (c : Int) (l : R3) : rowR n (sclR c l.1, sclR c l.2.1, sclR c l.2.2) = (c * (rowR n l).1, c * (rowR n l).2) := by
  unfold rowR; simp only [mulR_scl, Int.mul_add]
theorem mem_back {n u : Int × Int × Int} {l : R3} {c b : Int} (hc : 1 ≤ c) (h0 : c * l.1.1 ≤ u.1 ∧ u.1 ≤ c * l.1.2) (h1 : c * l.2.1.1 ≤ u.2.1 ∧ u.2.1 ≤ c * l.2.1.2) (h2 : c * l.2.2.1 ≤ u.2.2 ∧ u.2.2 ≤ c * l.2.2.2) (e : dot n u = c * b) : (rowR n l).1 ≤ b ∧ b ≤ (rowR n l).2 := by
  have g := rowR_mem (n := n) (v := u) (l := (sclR c l.1, sclR c l.2.1, sclR c l.2.2)) h0 h1 h2
  rw [rowR_scl, e] at g
  exact ⟨Int.le_of_mul_le_mul_left g.1 (by omega), Int.le_of_mul_le_mul_left g.2 (by omega)⟩
theorem pt_wide {n v : Int × Int × Int} {d : Int} (hd : 1 ≤ d) : d * (roundR (rowR n (ptR v)) d).1 ≤ dot n v ∧ dot n v ≤ d * (roundR (rowR n (ptR v)) d).2 := by
  have g := roundR_wide (x := rowR n (ptR v)) (d := d) (by omega)
  rw [rowR_pt] at g ⊢
  exact g
theorem pt_ord {n v : Int × Int × Int} {d : Int} (hd : 1 ≤ d) : (roundR (rowR n (ptR v)) d).1 ≤ (roundR (rowR n (ptR v)) d).2 := by
  rw [rowR_pt]; exact fdiv_le_cdiv _ (by omega)
theorem pt_ords {m : M3} {v : Int × Int × Int} {d : Int} (hd : 1 ≤ d) : v_ord (prodR m (ptR v) d) := ⟨pt_ord hd, pt_ord hd, pt_ord hd⟩
/-- What is mixed, or stripped, is stripped, or mixed, back. -/
theorem there_back {m n : M3} {c d : Int} (hc : 1 ≤ c) (hd : 1 ≤ d) {v : Int × Int × Int} (h : mulV n (mulV m v) = rowM (c * d) v) :
    ((prodR n (prodR m (ptR v) c) d).1.1 ≤ v.1 ∧ v.1 ≤ (prodR n (prodR m (ptR v) c) d).1.2) ∧ ((prodR n (prodR m (ptR v) c) d).2.1.1 ≤ v.2.1 ∧ v.2.1 ≤ (prodR n (prodR m (ptR v) c) d).2.1.2) ∧ ((prodR n (prodR m (ptR v) c) d).2.2.1 ≤ v.2.2 ∧ v.2.2 ≤ (prodR n (prodR m (ptR v) c) d).2.2.2) := by
  have e0 : dot n.1 (mulV m v) = c * (d * v.1) := by rw [← Int.mul_assoc]; exact congrArg (·.1) h
  have e1 : dot n.2.1 (mulV m v) = c * (d * v.2.1) := by rw [← Int.mul_assoc]; exact congrArg (·.2.1) h
  have e2 : dot n.2.2 (mulV m v) = c * (d * v.2.2) := by rw [← Int.mul_assoc]; exact congrArg (·.2.2) h
  have w0 := pt_wide (n := m.1) (v := v) hc
  have w1 := pt_wide (n := m.2.1) (v := v) hc
  have w2 := pt_wide (n := m.2.2) (v := v) hc
  exact ⟨roundR_mem (by omega) (mem_back (u := mulV m v) (l := prodR m (ptR v) c) hc w0 w1 w2 e0), roundR_mem (by omega) (mem_back (u := mulV m v) (l := prodR m (ptR v) c) hc w0 w1 w2 e1), roundR_mem (by omega) (mem_back (u := mulV m v) (l := prodR m (ptR v) c) hc w0 w1 w2 e2)⟩
theorem sum_within {m : M3} {c : Int} (hc : 1 ≤ c) {v : Int × Int × Int} (h : (mulV m v).1 + (mulV m v).2.1 + (mulV m v).2.2 = c * (v.1 + v.2.1 + v.2.2)) : (prodR m (ptR v) c).1.1 + (prodR m (ptR v) c).2.1.1 + (prodR m (ptR v) c).2.2.1 ≤ v.1 + v.2.1 + v.2.2 ∧ v.1 + v.2.1 + v.2.2 ≤ (prodR m (ptR v) c).1.2 + (prodR m (ptR v) c).2.1.2 + (prodR m (ptR v) c).2.2.2 := by
  have w0 := pt_wide (n := m.1) (v := v) hc
  have w1 := pt_wide (n := m.2.1) (v := v) hc
  have w2 := pt_wide (n := m.2.2) (v := v) hc
  have h' : dot m.1 v + dot m.2.1 v + dot m.2.2 v = c * (v.1 + v.2.1 + v.2.2) := h
  exact ⟨Int.le_of_mul_le_mul_left (a := c) (by rw [← h', Int.mul_add, Int.mul_add]; unfold prodR; simp only; omega) (by omega), Int.le_of_mul_le_mul_left (a := c) (by rw [← h', Int.mul_add, Int.mul_add]; unfold prodR; simp only; omega) (by omega)⟩
theorem strip_rows {m : M3} (h : v_mat m) : v_row 1000 m.1 ∧ v_row 1000 m.2.1 ∧ v_row 1000 m.2.2 := by
  have a := h.c0
  have b := h.c1
  have c := h.c2
  have a0 := a.x0; have a1 := a.y0; have a2 := a.z0
  have b0 := b.x0; have b1 := b.y0; have b2 := b.z0
  have c0 := c.x0; have c1 := c.y0; have c2 := c.z0
  exact ⟨⟨by unfold v_in; omega, by unfold v_in; omega, by unfold v_in; omega⟩, ⟨by unfold v_in; omega, by unfold v_in; omega, by unfold v_in; omega⟩, ⟨by unfold v_in; omega, by unfold v_in; omega, by unfold v_in; omega⟩⟩
theorem mixed_eq {m : M3} (h : v_mat m) {l : R3} (hl : v_r3 1000000000 l) : s_counts_product m l 1000 = prodR m l 1000 := by
  have i := strip_rows h
  exact product_eq i.1 i.2.1 i.2.2 hl (by omega) (by omega) (by omega) (by omega)
theorem dot_in {n v : Int × Int × Int} {a b : Int} (hn : v_row a n) (h0 : v_in b v.1) (h1 : v_in b v.2.1) (h2 : v_in b v.2.2) : v_in (3 * (a * b)) (dot n v) := by
  have g0 := mul_abs hn.a.1 hn.a.2 h0.1 h0.2
  have g1 := mul_abs hn.b.1 hn.b.2 h1.1 h1.2
  have g2 := mul_abs hn.c.1 hn.c.2 h2.1 h2.2
  unfold v_in dot; omega
theorem mix_in {m : M3} (h : v_mat m) {v : Int × Int × Int} (h0 : v_in 100000000 v.1) (h1 : v_in 100000000 v.2.1) (h2 : v_in 100000000 v.2.2) : v_r3 300000000 (prodR m (ptR v) 1000) := by
  have i := strip_rows h
  have g0 := dot_in i.1 h0 h1 h2
  have g1 := dot_in i.2.1 h0 h1 h2
  have g2 := dot_in i.2.2 h0 h1 h2
  have k : ∀ {n : Int}, v_in (3 * (1000 * 100000000)) n → v_in 300000000 (n / 1000) ∧ v_in 300000000 (cdiv n 1000) := fun {n} hn => fdiv_in (by omega) (by unfold v_in at *; omega)
  unfold prodR
  rw [rowR_pt, rowR_pt, rowR_pt]
  exact ⟨(k g0).1, (k g0).2, (k g1).1, (k g1).2, (k g2).1, (k g2).2⟩
theorem den_le {m : M3} {x : CI} {g : Int} (hm : v_mat m) (h : v_lows m x g) : x.2 ≤ 1000000000 := by
  have d := det_le hm
  have e := h.den
  have p := inv_den hm h
  have := in_of_mul (n := x.2) (m := 1000000000) h.pos (by rw [e]; have := (tx_det hm).1; unfold v_in; omega)
  exact this.2

/-- What a check of an inverse accepts. -/
structure v_acc (m : M3) (x : CI) : Prop where
  den : 1 ≤ x.2 ∧ x.2 ≤ 1000000000
  r0 : v_row 1000000000 x.1.1
  r1 : v_row 1000000000 x.1.2.1
  r2 : v_row 1000000000 x.1.2.2
  div : v_div x = 1
  mul : ∀ v, mulV x.1 (mulV m v) = rowM (1000 * x.2) v
theorem cond_err {b : Bool} {e r : Int × Int} (he : e.2 ≠ 0) (h : (cond b e r).2 = 0) : b = false ∧ r.2 = 0 := by
  cases b
  · exact ⟨rfl, h⟩
  · exact absurd h he
theorem con_row {a b c : Int} : s_slices_ContainsFuncint_int__counts_CheckInverse_1 (a :: b :: c :: []) () = false ↔ v_row 1000000000 (a, b, c) := by
  rw [tx_con3, Bool.not_eq_false']
  constructor
  · intro h
    obtain ⟨h, hc⟩ := tx_and h
    obtain ⟨ha, hb⟩ := tx_and h
    exact ⟨tx_within.1 ha, tx_within.1 hb, tx_within.1 hc⟩
  · rintro ⟨ha, hb, hc⟩
    rw [tx_within.2 ha, tx_within.2 hb, tx_within.2 hc]; rfl
theorem sum3_w {r : Int × Int × Int} (h : v_row 1000000000 r) {x y z : Int} (hx : 0 ≤ x ∧ x ≤ 1000) (hy : 0 ≤ y ∧ y ≤ 1000) (hz : 0 ≤ z ∧ z ≤ 1000) : IntKind.i64.wrap (IntKind.i64.wrap (IntKind.i64.wrap (0 + IntKind.i64.wrap (r.1 * x)) + IntKind.i64.wrap (r.2.1 * y)) + IntKind.i64.wrap (r.2.2 * z)) = dot r (x, y, z) := by
  have g0 := mul_abs (x := r.1) (y := x) (b := 1000) h.a.1 h.a.2 (by omega) (by omega)
  have g1 := mul_abs (x := r.2.1) (y := y) (b := 1000) h.b.1 h.b.2 (by omega) (by omega)
  have g2 := mul_abs (x := r.2.2) (y := z) (b := 1000) h.c.1 h.c.2 (by omega) (by omega)
  simp only [w_add_l, w_add_r, Int.zero_add, dot]
  exact wrap_id (by omega) (by omega)
/-- Rows that are right at the three columns are right at all values. -/
theorem mul_of {m : M3} {x : CI} (h : ∀ v, v = (1, 0, 0) ∨ v = (0, 1, 0) ∨ v = (0, 0, 1) → mulV x.1 (mulV m v) = rowM (1000 * x.2) v) (v : Int × Int × Int) : mulV x.1 (mulV m v) = rowM (1000 * x.2) v := by
  have h0 := h (1, 0, 0) (.inl rfl)
  have h1 := h (0, 1, 0) (.inr (.inl rfl))
  have h2 := h (0, 0, 1) (.inr (.inr rfl))
  obtain ⟨⟨⟨a, b, c⟩, ⟨d, e, f⟩, ⟨g, k, i⟩⟩, n⟩ := x
  obtain ⟨⟨a', b', c'⟩, ⟨d', e', f'⟩, ⟨g', k', i'⟩⟩ := m
  obtain ⟨x, y, z⟩ := v
  simp only [mulV, dot, rowM, Prod.mk.injEq, Int.mul_one, Int.mul_zero, Int.add_zero, Int.zero_add] at *
  obtain ⟨p0, p1, p2⟩ := h0
  obtain ⟨q0, q1, q2⟩ := h1
  obtain ⟨r0, r1, r2⟩ := h2
  clear h
  have t : ∀ a b c : Int, a * (a' * x + b' * y + c' * z) + b * (d' * x + e' * y + f' * z) + c * (g' * x + k' * y + i' * z) = (a * a' + b * d' + c * g') * x + (a * b' + b * e' + c * k') * y + (a * c' + b * f' + c * i') * z := by
    intro a b c
    clear p0 p1 p2 q0 q1 q2 r0 r1 r2
    grind
  rw [t, t, t, p0, p1, p2, q0, q1, q2, r0, r1, r2]
  refine ⟨?_, ?_, ?_⟩ <;> omega
theorem acc_of {m : M3} (hm : v_mat m) {x : CI} (h : (v_chk m x).2 = 0) : v_acc m x := by
  unfold v_chk at h
  obtain ⟨k1, h⟩ := cond_err (by decide) h
  obtain ⟨k2, h⟩ := cond_err (by decide) h
  obtain ⟨k3, h⟩ := cond_err (by decide) h
  obtain ⟨k4, h⟩ := cond_err (by decide) h
  obtain ⟨k5, h⟩ := cond_err (by decide) h
  obtain ⟨a0, h⟩ := cond_err (by decide) h
  obtain ⟨a1, h⟩ := cond_err (by decide) h
  obtain ⟨a2, h⟩ := cond_err (by decide) h
  obtain ⟨b0, h⟩ := cond_err (by decide) h
  obtain ⟨b1, h⟩ := cond_err (by decide) h
  obtain ⟨b2, h⟩ := cond_err (by decide) h
  obtain ⟨c0, h⟩ := cond_err (by decide) h
  obtain ⟨c1, h⟩ := cond_err (by decide) h
  obtain ⟨c2, h⟩ := cond_err (by decide) h
  have d : 1 ≤ x.2 ∧ x.2 ≤ 1000000000 := tx_within.1 (by simpa using k1)
  have r0 := con_row.1 k2
  have r1 := con_row.1 k3
  have r2 := con_row.1 k4
  have e := hm.c0
  have f := hm.c1
  have g := hm.c2
  rw [bne_eq_false_iff_eq] at k5 a0 a1 a2 b0 b1 b2 c0 c1 c2
  rw [sum3_w r0 e.x0 e.y0 e.z0, wrap_id (by omega) (by omega)] at a0
  rw [sum3_w r0 f.x0 f.y0 f.z0] at a1
  rw [sum3_w r0 g.x0 g.y0 g.z0] at a2
  rw [sum3_w r1 e.x0 e.y0 e.z0] at b0
  rw [sum3_w r1 f.x0 f.y0 f.z0, wrap_id (by omega) (by omega)] at b1
  rw [sum3_w r1 g.x0 g.y0 g.z0] at b2
  rw [sum3_w r2 e.x0 e.y0 e.z0] at c0
  rw [sum3_w r2 f.x0 f.y0 f.z0] at c1
  rw [sum3_w r2 g.x0 g.y0 g.z0, wrap_id (by omega) (by omega)] at c2
  refine ⟨d, r0, r1, r2, k5, mul_of ?_⟩
  simp only [dot] at a0 a1 a2 b0 b1 b2 c0 c1 c2
  rintro v (rfl | rfl | rfl) <;> simp only [mulV, dot, rowM, Int.mul_one, Int.mul_zero, Int.add_zero, Int.zero_add, a0, a1, a2, b0, b1, b2, c0, c1, c2]
theorem chk_of {m : M3} (hm : v_mat m) {x : CI} (h : v_acc m x) : v_chk m x = (0, 0) := by
  have d := h.den
  have e := hm.c0
  have f := hm.c1
  have g := hm.c2
  have h0 := h.mul (1, 0, 0)
  have h1 := h.mul (0, 1, 0)
  have h2 := h.mul (0, 0, 1)
  simp only [mulV, dot, rowM, Prod.mk.injEq, Int.mul_one, Int.mul_zero, Int.add_zero, Int.zero_add] at h0 h1 h2
  have k1 : s_counts_within x.2 1 1000000000 = true := tx_within.2 d
  unfold v_chk
  rw [k1, con_row.2 h.r0, con_row.2 h.r1, con_row.2 h.r2, h.div]
  rw [sum3_w h.r0 e.x0 e.y0 e.z0, sum3_w h.r0 f.x0 f.y0 f.z0, sum3_w h.r0 g.x0 g.y0 g.z0, sum3_w h.r1 e.x0 e.y0 e.z0, sum3_w h.r1 f.x0 f.y0 f.z0, sum3_w h.r1 g.x0 g.y0 g.z0, sum3_w h.r2 e.x0 e.y0 e.z0, sum3_w h.r2 f.x0 f.y0 f.z0, sum3_w h.r2 g.x0 g.y0 g.z0, wrap_id (n := 1000 * x.2) (by omega) (by omega)]
  simp only [dot, h0.1, h0.2.1, h0.2.2, h1.1, h1.2.1, h1.2.2, h2.1, h2.2.1, h2.2.2]
  simp
theorem dvd_div {c : Int} {x : CI} (a : c ∣ x.1.1.1 ∧ c ∣ x.1.1.2.1 ∧ c ∣ x.1.1.2.2) (b : c ∣ x.1.2.1.1 ∧ c ∣ x.1.2.1.2.1 ∧ c ∣ x.1.2.1.2.2) (d : c ∣ x.1.2.2.1 ∧ c ∣ x.1.2.2.2.1 ∧ c ∣ x.1.2.2.2.2) (e : c ∣ x.2) : c ∣ v_div x := by
  unfold v_div v_gcd
  exact Int.dvd_coe_gcd (Int.dvd_coe_gcd (Int.dvd_coe_gcd (Int.dvd_coe_gcd (Int.dvd_coe_gcd (Int.dvd_coe_gcd (Int.dvd_coe_gcd (Int.dvd_coe_gcd (Int.dvd_coe_gcd e a.1) a.2.1) a.2.2) b.1) b.2.1) b.2.2) d.1) d.2.1) d.2.2
theorem lowest_div {x : CI} (h : 1 ≤ x.2) : v_div (v_lowest x) = 1 := by
  have hg := (v_div_in h).1
  obtain ⟨l0, l1, l2, l3⟩ := lowest_mul x
  have hl : 1 ≤ (v_lowest x).2 := by
    rcases Int.lt_or_le 0 (v_lowest x).2 with h0 | h0
    · omega
    · have := Int.mul_le_mul_of_nonneg_left (c := v_div x) h0 (by omega)
      rw [Int.mul_zero] at this; omega
  have hd := (v_div_in hl).1
  obtain ⟨a, b, c, e⟩ := div_dvd (v_lowest x)
  have k : ∀ {n k : Int}, v_div (v_lowest x) ∣ n → v_div x * n = k → v_div x * v_div (v_lowest x) ∣ k := fun h1 h2 => h2 ▸ Int.mul_dvd_mul_left _ h1
  have d := dvd_div (x := x) ⟨k a.1 (congrArg (·.1) l0), k a.2.1 (congrArg (·.2.1) l0), k a.2.2 (congrArg (·.2.2) l0)⟩ ⟨k b.1 (congrArg (·.1) l1), k b.2.1 (congrArg (·.2.1) l1), k b.2.2 (congrArg (·.2.2) l1)⟩ ⟨k c.1 (congrArg (·.1) l2), k c.2.1 (congrArg (·.2.1) l2), k c.2.2 (congrArg (·.2.2) l2)⟩ (k e l3)
  have d2 := Int.le_of_dvd (by omega) d
  have d3 : v_div x * v_div (v_lowest x) ≤ v_div x * 1 := by rw [Int.mul_one]; exact d2
  have := Int.le_of_mul_le_mul_left d3 (by omega)
  omega
/-- The inverse is accepted. -/
theorem inv_acc {r : CR} (h : v_rules r) : v_acc r.2.2.2.2.2.2.2.1 (v_inv r) := by
  have hx := inv_lows h
  have hm := tx_mat h
  have i := inv_in hm hx
  exact ⟨⟨inv_den hm hx, den_le hm hx⟩, i.1, i.2.1, i.2.2, lowest_div (tx_inv0 hm).den.1, inv_mul hx⟩
theorem dvd_mul_gcd {o c a b : Int} (hc : 0 ≤ c) (h1 : o ∣ c * a) (h2 : o ∣ c * b) : o ∣ c * v_gcd a b := by
  have h := Int.dvd_coe_gcd h1 h2
  rw [Int.gcd_mul_left] at h
  have e : ((c.natAbs * Int.gcd a b : Nat) : Int) = c * v_gcd a b := by
    unfold v_gcd; rw [Int.natCast_mul, Int.natAbs_of_nonneg hc]
  rwa [e] at h
theorem dvd_mul_div {o c : Int} {x : CI} (hc : 0 ≤ c) (a : o ∣ c * x.1.1.1 ∧ o ∣ c * x.1.1.2.1 ∧ o ∣ c * x.1.1.2.2) (b : o ∣ c * x.1.2.1.1 ∧ o ∣ c * x.1.2.1.2.1 ∧ o ∣ c * x.1.2.1.2.2) (d : o ∣ c * x.1.2.2.1 ∧ o ∣ c * x.1.2.2.2.1 ∧ o ∣ c * x.1.2.2.2.2) (e : o ∣ c * x.2) : o ∣ c * v_div x := by
  unfold v_div
  exact dvd_mul_gcd hc (dvd_mul_gcd hc (dvd_mul_gcd hc (dvd_mul_gcd hc (dvd_mul_gcd hc (dvd_mul_gcd hc (dvd_mul_gcd hc (dvd_mul_gcd hc (dvd_mul_gcd hc e a.1) a.2.1) a.2.2) b.1) b.2.1) b.2.2) d.1) d.2.1) d.2.2
/-- Two accepted inverses: crosswise products. -/
theorem acc_cross {m : M3} (hm : v_mat m) {x y : CI} (hx : v_acc m x) (hy : v_acc m y) (v : Int × Int × Int) : rowM y.2 (mulV x.1 v) = rowM x.2 (mulV y.1 v) := by
  have hd := tx_det hm
  have ex := hx.mul (mulV (v_cof m) v)
  have ey := hy.mul (mulV (v_cof m) v)
  rw [mul_cof, mulV_rowM] at ex ey
  have c : ∀ {d p q n k : Int}, 1 ≤ d → d * p = 1000 * n * q → ∀ {p'}, d * p' = 1000 * k * q → k * p = n * p' := by
    intro d p q n k hd h1 p' h2
    refine Int.eq_of_mul_eq_mul_left (a := d) (by omega) ?_
    have e1 : d * (k * p) = k * (d * p) := by rw [Int.mul_left_comm]
    have e2 : d * (n * p') = n * (d * p') := by rw [Int.mul_left_comm]
    rw [e1, e2, h1, h2]; grind
  refine Prod.ext ?_ (Prod.ext ?_ ?_)
  · exact c (d := v_det m) (q := (mulV (v_cof m) v).1) (by omega) (congrArg (·.1) ex) (congrArg (·.1) ey)
  · exact c (d := v_det m) (q := (mulV (v_cof m) v).2.1) (by omega) (congrArg (·.2.1) ex) (congrArg (·.2.1) ey)
  · exact c (d := v_det m) (q := (mulV (v_cof m) v).2.2) (by omega) (congrArg (·.2.2) ex) (congrArg (·.2.2) ey)
theorem acc_dvd {m : M3} (hm : v_mat m) {x y : CI} (hx : v_acc m x) (hy : v_acc m y) : y.2 ∣ x.2 := by
  have dx := hx.den
  have e0 := acc_cross hm hx hy (1, 0, 0)
  have e1 := acc_cross hm hx hy (0, 1, 0)
  have e2 := acc_cross hm hx hy (0, 0, 1)
  simp only [mulV, dot, rowM, Prod.mk.injEq, Int.mul_one, Int.mul_zero, Int.add_zero, Int.zero_add] at e0 e1 e2
  have k : ∀ {p q : Int}, y.2 * p = x.2 * q → y.2 ∣ x.2 * q := fun h => ⟨_, h.symm⟩
  have := dvd_mul_div (o := y.2) (c := x.2) (x := y) (by omega) ⟨k e0.1, k e1.1, k e2.1⟩ ⟨k e0.2.1, k e1.2.1, k e2.2.1⟩ ⟨k e0.2.2, k e1.2.2, k e2.2.2⟩ ⟨x.2, Int.mul_comm _ _⟩
  rwa [hy.div, Int.mul_one] at this
/-- At most one inverse is accepted. -/
theorem acc_uniq {m : M3} (hm : v_mat m) {x y : CI} (hx : v_acc m x) (hy : v_acc m y) : x = y := by
  have dx := hx.den
  have dy := hy.den
  have h1 := Int.le_of_dvd (by omega) (acc_dvd hm hx hy)
  have h2 := Int.le_of_dvd (by omega) (acc_dvd hm hy hx)
  have hd : x.2 = y.2 := by omega
  have e0 := acc_cross hm hx hy (1, 0, 0)
  have e1 := acc_cross hm hx hy (0, 1, 0)
  have e2 := acc_cross hm hx hy (0, 0, 1)
  simp only [mulV, dot, rowM, Prod.mk.injEq, Int.mul_one, Int.mul_zero, Int.add_zero, Int.zero_add] at e0 e1 e2
  rw [hd] at e0 e1 e2
  have k : ∀ {p q : Int}, y.2 * p = y.2 * q → p = q := fun h => Int.eq_of_mul_eq_mul_left (by omega) h
  exact Prod.ext (Prod.ext (Prod.ext (k e0.1) (Prod.ext (k e1.1) (k e2.1))) (Prod.ext (Prod.ext (k e0.2.1) (Prod.ext (k e1.2.1) (k e2.2.1))) (Prod.ext (k e0.2.2) (Prod.ext (k e1.2.2) (k e2.2.2))))) hd

theorem Mixed_ok {p0 : CR} (h : v_rules p0) (h0 : (s_counts_CheckRules p0).2 = 0) {l : R3} (hl : v_r3 1000000000 l) (ho : v_ord l) : s_counts_Mixed p0 l = (prodR p0.2.2.2.2.2.2.2.1 l 1000, 0) := by
  unfold s_counts_Mixed; rw [h0, vals_ok hl ho, mixed_eq (tx_mat h) hl]; rfl
theorem StrippedOf_ok {p0 : CR} (h : v_rules p0) (h0 : (s_counts_CheckRules p0).2 = 0) {l : R3} (hl : v_r3 1000000000 l) (ho : v_ord l) : s_counts_StrippedOf p0 l = (prodR (v_inv p0).1 l (v_inv p0).2, 0) := by
  unfold s_counts_StrippedOf; rw [h0, vals_ok hl ho, stripped_eq h hl]; rfl
theorem InverseOf_ok {p0 : CR} (h0 : (s_counts_CheckRules p0).2 = 0) : s_counts_InverseOf p0 = (v_inv p0, 0) := by unfold s_counts_InverseOf; rw [h0]; rfl

theorem prodR_mono {m : M3} {l k : R3} {d : Int} (hd : 1 ≤ d) (ho : v_ord l) (h0 : k.1.1 ≤ l.1.1 ∧ l.1.2 ≤ k.1.2) (h1 : k.2.1.1 ≤ l.2.1.1 ∧ l.2.1.2 ≤ k.2.1.2) (h2 : k.2.2.1 ≤ l.2.2.1 ∧ l.2.2.2 ≤ k.2.2.2) :
    ((prodR m k d).1.1 ≤ (prodR m l d).1.1 ∧ (prodR m l d).1.1 ≤ (prodR m l d).1.2 ∧ (prodR m l d).1.2 ≤ (prodR m k d).1.2) ∧ ((prodR m k d).2.1.1 ≤ (prodR m l d).2.1.1 ∧ (prodR m l d).2.1.1 ≤ (prodR m l d).2.1.2 ∧ (prodR m l d).2.1.2 ≤ (prodR m k d).2.1.2) ∧ ((prodR m k d).2.2.1 ≤ (prodR m l d).2.2.1 ∧ (prodR m l d).2.2.1 ≤ (prodR m l d).2.2.2 ∧ (prodR m l d).2.2.2 ≤ (prodR m k d).2.2.2) := by
  have a := ho.a
  have b := ho.b
  have c := ho.c
  exact ⟨roundR_mono (by omega) (rowR_mono ⟨h0.1, h0.2, a⟩ ⟨h1.1, h1.2, b⟩ ⟨h2.1, h2.2, c⟩), roundR_mono (by omega) (rowR_mono ⟨h0.1, h0.2, a⟩ ⟨h1.1, h1.2, b⟩ ⟨h2.1, h2.2, c⟩), roundR_mono (by omega) (rowR_mono ⟨h0.1, h0.2, a⟩ ⟨h1.1, h1.2, b⟩ ⟨h2.1, h2.2, c⟩)⟩
theorem gt_false {a b : Int} (h : a ≤ b) : decide (a > b) = false := decide_eq_false (by omega)
theorem lt_false {a b : Int} (h : b ≤ a) : decide (a < b) = false := decide_eq_false (by omega)
theorem same_inv {p0 : CR} (hv : v_rules p0) (x : CI) : ((v_chk p0.2.2.2.2.2.2.2.1 x).2 == 0) = ((x.1.1.1 == (v_inv p0).1.1.1) && ((x.1.1.2.1 == (v_inv p0).1.1.2.1) && ((x.1.1.2.2 == (v_inv p0).1.1.2.2) && ((x.1.2.1.1 == (v_inv p0).1.2.1.1) && ((x.1.2.1.2.1 == (v_inv p0).1.2.1.2.1) && ((x.1.2.1.2.2 == (v_inv p0).1.2.1.2.2) && ((x.1.2.2.1 == (v_inv p0).1.2.2.1) && ((x.1.2.2.2.1 == (v_inv p0).1.2.2.2.1) && ((x.1.2.2.2.2 == (v_inv p0).1.2.2.2.2) && ((x.2 == (v_inv p0).2) && true)))))))))) := by
  have ha := inv_acc hv
  by_cases h : x = v_inv p0
  · subst h
    rw [chk_of (tx_mat hv) ha]
    simp
  · have h1 : ((v_chk p0.2.2.2.2.2.2.2.1 x).2 == 0) = false := by
      rw [beq_eq_false_iff_ne]
      intro e
      exact h (acc_uniq (tx_mat hv) (acc_of (tx_mat hv) e) ha)
    rw [h1]
    symm
    rw [Bool.eq_false_iff]
    intro e
    simp only [Bool.and_eq_true, beq_iff_eq, and_true] at e
    obtain ⟨e0, e1, e2, e3, e4, e5, e6, e7, e8, e9⟩ := e
    exact h (Prod.ext (Prod.ext (Prod.ext e0 (Prod.ext e1 e2)) (Prod.ext (Prod.ext e3 (Prod.ext e4 e5)) (Prod.ext e6 (Prod.ext e7 e8)))) e9)
theorem wide_in {x y : Int × Int} (hx : v_value x) (hy : v_value y) : (v_in 1000000000 (min x.1 y.1) ∧ v_in 1000000000 (max x.2 y.2) ∧ min x.1 y.1 ≤ max x.2 y.2) ∧ min x.1 y.1 ≤ x.1 ∧ x.2 ≤ max x.2 y.2 := by
  have a := hx.lo; have b := hx.hi; have c := hx.le
  have a' := hy.lo; have b' := hy.hi; have c' := hy.le
  unfold v_in; omega
theorem plain_law06_CountsUndone (p0 : CR) (p1 : CI) (p2 : R3 × R3) (_ : okPs P_law06_CountsUndone (p0, p1, p2)) : (∀ p ∈ pre_law06_CountsUndone p0 p1 p2, p) ∧ s_law06_CountsUndone p0 p1 p2 = true := by
  rcases hg : (cond (!(s_law06_fewKnots p0)) true ((s_counts_CheckRules p0).2 != 0)) with _ | _
  · obtain ⟨g0, g1⟩ := tx_or hg
    have hl := few_of g0
    have hv := tx_rok g1
    have h0 : (s_counts_CheckRules p0).2 = 0 := bne0 g1
    constructor
    · intro p hp
      simp only [pre_law06_CountsUndone, List.mem_cons, List.not_mem_nil, or_false] at hp
      repeat' (first | rcases hp with rfl | hp)
      all_goals first
        | (intros; first | exact hl | exact hv)
        | (subst hp; intros; first | exact hl | exact hv)
    · have hm := tx_mat hv
      have hx := inv_lows hv
      have hd := inv_den hm hx
      have eI := InverseOf_ok h0
      have eK := chk_of hm (inv_acc hv)
      have eS := same_inv hv p1
      have z : ((0 : Int) != 0) = false := rfl
      unfold s_law06_CountsUndone
      rw [hg]
      simp only [eI, h0, z, cond_false, eK, eS, beq_self_eq_true, Bool.not_true]
      rcases f0 : (cond (s_counts_valueErr p2.1.1 != 0) true (s_counts_valueErr p2.2.1 != 0)) with _ | _
      · rcases f1 : (cond (s_counts_valueErr p2.1.2.1 != 0) true (s_counts_valueErr p2.2.2.1 != 0)) with _ | _
        · rcases f2 : (cond (s_counts_valueErr p2.1.2.2 != 0) true (s_counts_valueErr p2.2.2.2 != 0)) with _ | _
          · obtain ⟨a0, b0⟩ := tx_or f0
            obtain ⟨a1, b1⟩ := tx_or f1
            obtain ⟨a2, b2⟩ := tx_or f2
            have a0 := tx_value (bne0 a0); have a1 := tx_value (bne0 a1); have a2 := tx_value (bne0 a2)
            have b0 := tx_value (bne0 b0); have b1 := tx_value (bne0 b1); have b2 := tx_value (bne0 b2)
            have w0 := wide_in a0 b0
            have w1 := wide_in a1 b1
            have w2 := wide_in a2 b2
            have ul : v_r3 1000000000 p2.1 := ⟨a0.lo, a0.hi, a1.lo, a1.hi, a2.lo, a2.hi⟩
            have uo : v_ord p2.1 := ⟨a0.le, a1.le, a2.le⟩
            generalize hw : (((min p2.1.1.1 p2.2.1.1, max p2.1.1.2 p2.2.1.2), (min p2.1.2.1.1 p2.2.2.1.1, max p2.1.2.1.2 p2.2.2.1.2), min p2.1.2.2.1 p2.2.2.2.1, max p2.1.2.2.2 p2.2.2.2.2) : R3) = w
            have e0 : w.1 = (min p2.1.1.1 p2.2.1.1, max p2.1.1.2 p2.2.1.2) := by rw [← hw]
            have e1 : w.2.1 = (min p2.1.2.1.1 p2.2.2.1.1, max p2.1.2.1.2 p2.2.2.1.2) := by rw [← hw]
            have e2 : w.2.2 = (min p2.1.2.2.1 p2.2.2.2.1, max p2.1.2.2.2 p2.2.2.2.2) := by rw [← hw]
            have wl : v_r3 1000000000 w := ⟨by rw [e0]; exact w0.1.1, by rw [e0]; exact w0.1.2.1, by rw [e1]; exact w1.1.1, by rw [e1]; exact w1.1.2.1, by rw [e2]; exact w2.1.1, by rw [e2]; exact w2.1.2.1⟩
            have wo : v_ord w := ⟨by rw [e0]; exact w0.1.2.2, by rw [e1]; exact w1.1.2.2, by rw [e2]; exact w2.1.2.2⟩
            have q0 : w.1.1 ≤ p2.1.1.1 ∧ p2.1.1.2 ≤ w.1.2 := by rw [e0]; exact w0.2
            have q1 : w.2.1.1 ≤ p2.1.2.1.1 ∧ p2.1.2.1.2 ≤ w.2.1.2 := by rw [e1]; exact w1.2
            have q2 : w.2.2.1 ≤ p2.1.2.2.1 ∧ p2.1.2.2.2 ≤ w.2.2.2 := by rw [e2]; exact w2.2
            have sA := StrippedOf_ok hv h0 ul uo
            have sB := StrippedOf_ok hv h0 wl wo
            have mA := Mixed_ok hv h0 ul uo
            have mB := Mixed_ok hv h0 wl wo
            have o1 := prodR_mono (m := (v_inv p0).1) hd uo q0 q1 q2
            have o2 := prodR_mono (m := p0.2.2.2.2.2.2.2.1) (d := 1000) (by omega) uo q0 q1 q2
            simp only [sA, sB, mA, mB, z, cond_false, gt_false o1.1.1, gt_false o1.1.2.1, lt_false o1.1.2.2, gt_false o1.2.1.1, gt_false o1.2.1.2.1, lt_false o1.2.1.2.2, gt_false o1.2.2.1, gt_false o1.2.2.2.1, lt_false o1.2.2.2.2, gt_false o2.1.1, gt_false o2.1.2.1, lt_false o2.1.2.2, gt_false o2.2.1.1, gt_false o2.2.1.2.1, lt_false o2.2.1.2.2, gt_false o2.2.2.1, gt_false o2.2.2.2.1, lt_false o2.2.2.2.2]
          · rfl
        · rfl
      · rfl
  · constructor
    · intro p hp
      simp only [pre_law06_CountsUndone, List.mem_cons, List.not_mem_nil, or_false, hg] at hp
      repeat' (first | rcases hp with rfl | hp)
      all_goals first
        | exact fun e => nomatch e
        | (subst hp; exact fun e => nomatch e)
    · unfold s_law06_CountsUndone
      rw [hg]; rfl

theorem own : ownKnob Try.prog.godebug = none := by kernel_rfl
theorem laidOut : laidOutB Try.prog = true := by kernel_rfl
theorem hfn12 : Try.prog.funcs[12]? = some (fnOf Try.prog 12) := by kernel_rfl
theorem hps12 : (fnOf Try.prog 12).params.size = 3 := by kernel_rfl
theorem lifted_CountsUndone (os : Os) (started : os.Started) (H : Type) (enc : TypeId × Value → H) :
    ReturnsInHanded {} Try.checked os 12 .any (Rows.countsUndoneSpec.pre6 enc Try.prog (fnOf Try.prog 12) [] false) (Rows.countsUndoneSpec.post enc Try.prog (fnOf Try.prog 12) false true false false) :=
  said_of (C := Try.checked) (ss := P_law06_CountsUndone.map shP) own started (by kernel_rfl) hfn12
    (ChangeSpec.witness6 (enc := enc) (C := Try.checked) false ⟨#[], zeroArgs P_law06_CountsUndone, []⟩ 8 (by kernel_rfl) (by kernel_rfl) (by kernel_rfl) (by kernel_rfl)) rfl
    (fun ds h => by
      rw [hps12] at h
      match ds, h with
      | [_, _, _], _ => rfl)
    laidOut (by kernel_rfl) (rt := (fnOf Try.prog 12).resultTypes.getD 0 0) (by kernel_rfl) (by kernel_rfl) (by kernel_rfl)
    (law_of ok_law06_CountsUndone fun x hx => ⟨(plain_law06_CountsUndone x.1 x.2.1 x.2.2 hx).1, congrArg (fun b => V.p (.bool b)) (plain_law06_CountsUndone x.1 x.2.1 x.2.2 hx).2⟩)
theorem CountsUndone_holds : Rows.CountsUndoneSaid :=
  OpenClaim.holds_of_wide 12 (fnOf Try.prog 12) rfl rfl rfl rfl rfl rfl rfl ⟨rfl, rfl, rfl, rfl, rfl⟩ rfl rfl rfl rfl rfl (by kernel_rfl) hfn12 (by kernel_rfl)
    (of_decide_eq_true (by kernel_rfl)) (by unfold Func.isWrapper; first | (rw [if_pos (by decide +kernel)]; kernel_rfl) | (rw [if_neg (by decide +kernel)]; exact ⟨rfl, rfl⟩))
    (fun os started H enc _ => lifted_CountsUndone os started H enc)
end Go.Proofs.Ytonjnpefnbnohaa
