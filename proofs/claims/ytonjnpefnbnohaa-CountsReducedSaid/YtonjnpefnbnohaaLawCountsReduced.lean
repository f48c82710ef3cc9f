/- CountsReduced: the given statement is proved: at every input the law returns true, and the input reads as it did. No condition. -/
import Derived.Test.YtonjnpefnbnohaaWalkCountsReduced
import Derived.Test.YtonjnpefnbnohaaTxV
import Derived.Test.YtonjnpefnbnohaaRows
import Derived.ProofKit
namespace Go.Proofs.Ytonjnpefnbnohaa
open Go Go.Mx
set_option maxRecDepth 100000
theorem few_of {p0 : CR} (h : (!(s_law06_fewKnots p0)) = false) : p0.hs.length ≤ 10 := by
  have h' : decide ((p0.hs.length : Int) ≤ 10) = true := by simpa [s_law06_fewKnots] using h
  have := of_decide_eq_true h'
  omega
theorem hz (x : Int) : (x == 0) = !(x != 0) := by simp [bne]
theorem floor_eq {n b : Int} (hn : -9223372036854775807 ≤ n ∧ n ≤ 9223372036854775807) (hb : 0 < b) : s_counts_floor n b = n / b := floor_is hn hb
theorem ceil_eq {n b : Int} (hn : -9223372036854775807 ≤ n ∧ n ≤ 9223372036854775807) (hb : 0 < b) : s_counts_ceil n b = cdiv n b := by
  rw [← ceil_is hn hb]
  unfold s_counts_ceil
  have e : IntKind.i64.wrap (0 - n) = -n := by rw [wrap_id (by omega) (by omega)]; omega
  rw [e, floor_eq (by omega) hb]
theorem rounded_eq {n m b : Int} (hn : -9223372036854775807 ≤ n ∧ n ≤ 9223372036854775807) (hm : -9223372036854775807 ≤ m ∧ m ≤ 9223372036854775807) (hb : 0 < b) : s_counts_rounded (n, m) b = (n / b, cdiv m b) := by
  unfold s_counts_rounded
  rw [floor_eq hn hb, ceil_eq hm hb]
/-- A quotient within bounds. -/
theorem fdiv_in {n d m : Int} (hd : 0 < d) (h : v_in (m * d) n) : v_in m (n / d) ∧ v_in m (cdiv n d) := by
  unfold v_in at *
  have h1 := fdiv_mono hd h.1
  have h2 := fdiv_mono hd h.2
  have h3 := cdiv_mono hd h.1
  have h4 := cdiv_mono hd h.2
  have e1 : -(m * d) / d = -m := by rw [← Int.neg_mul]; exact Int.mul_ediv_cancel _ (by omega)
  have e2 : m * d / d = m := Int.mul_ediv_cancel _ (by omega)
  have e3 : cdiv (-(m * d)) d = -m := by unfold cdiv; rw [Int.neg_neg, e2]
  have e4 : cdiv (m * d) d = m := by unfold cdiv; rw [e1, Int.neg_neg]
  omega

/-- The live counts of one window. -/
def liveV (r : CR) (s : CS) (a : Int) : Int × Int := (1000 * a * r.1 / (r.1 - r.2.1 * s.2.1), cdiv (1000 * a * r.1) (r.1 - r.2.1 * s.2.1))
theorem live_eq {r : CR} {s : CS} (h : v_samp r s) : s_counts_rules_live r s = (liveV r s s.1.1, liveV r s s.1.2.1, liveV r s s.1.2.2) := by
  obtain ⟨h1, h2, h3⟩ := tx_live h
  have hp := h.rules.period
  have key : ∀ a : Int, 0 ≤ a ∧ a ≤ 100000 → s_counts_rounded (s_counts_single (IntKind.i64.wrap (IntKind.i64.wrap (1000 * a) * r.1))) (r.1 - r.2.1 * s.2.1) = liveV r s a := by
    intro a ha
    have g := mul_in (x := 1000 * a) (y := r.1) (a := 100000000) (b := 1000000) (by omega) (by omega) (by omega) hp.2
    rw [w_mul_l, wrap_id (n := 1000 * a * r.1) (by omega) (by omega)]
    exact rounded_eq (by omega) (by omega) (by omega)
  unfold s_counts_rules_live
  rw [h1, key _ h.raw0, key _ h.raw1, key _ h.raw2]
/-- As at most half of the time is dead. -/
theorem liveV_in {r : CR} {s : CS} (h : v_samp r s) {a : Int} (ha : 0 ≤ a ∧ a ≤ 100000) : v_in 200000000 (liveV r s a).1 ∧ v_in 200000000 (liveV r s a).2 ∧ 0 ≤ (liveV r s a).1 ∧ (liveV r s a).1 ≤ (liveV r s a).2 := by
  obtain ⟨_, h2, h3⟩ := tx_live h
  have hp := h.rules.period
  have hd := h.dead
  have g := mul_in (x := 1000 * a) (y := r.1) (a := 100000000) (b := 1000000) (by omega) (by omega) (by omega) hp.2
  have g2 : 1000 * a * r.1 ≤ 100000000 * (2 * (r.1 - r.2.1 * s.2.1)) := by
    have q1 : 1000 * a * r.1 ≤ 100000000 * r.1 := Int.mul_le_mul_of_nonneg_right (by omega) (by omega)
    omega
  have g3 := fdiv_in (n := 1000 * a * r.1) (d := r.1 - r.2.1 * s.2.1) (m := 200000000) (by omega) (by unfold v_in; omega)
  have g4 := (ediv_abs (1000 * a * r.1) (b := r.1 - r.2.1 * s.2.1) (by omega)).1 g.1
  have g5 := fdiv_le_cdiv (1000 * a * r.1) (b := r.1 - r.2.1 * s.2.1) (by omega)
  exact ⟨g3.1, g3.2, g4.1, g5⟩

/-- A number times a range, a row times ranges, a matrix times ranges by a number: all exact. -/
def mulR (n : Int) (x : Int × Int) : Int × Int := if n < 0 then (n * x.2, n * x.1) else (n * x.1, n * x.2)
def rowR (n : Int × Int × Int) (l : R3) : Int × Int := ((mulR n.1 l.1).1 + (mulR n.2.1 l.2.1).1 + (mulR n.2.2 l.2.2).1, (mulR n.1 l.1).2 + (mulR n.2.1 l.2.1).2 + (mulR n.2.2 l.2.2).2)
def roundR (x : Int × Int) (d : Int) : Int × Int := (x.1 / d, cdiv x.2 d)
def prodR (m : M3) (l : R3) (d : Int) : R3 := (roundR (rowR m.1 l) d, roundR (rowR m.2.1 l) d, roundR (rowR m.2.2 l) d)
def dot (n v : Int × Int × Int) : Int := n.1 * v.1 + n.2.1 * v.2.1 + n.2.2 * v.2.2
theorem mulR_in {n a b : Int} {x : Int × Int} (hn : v_in a n) (h1 : v_in b x.1) (h2 : v_in b x.2) (ha : 0 ≤ a) (hb : 0 ≤ b) : v_in (a * b) (mulR n x).1 ∧ v_in (a * b) (mulR n x).2 := by
  have g1 := mul_abs (x := n) (y := x.1) hn.1 hn.2 h1.1 h1.2
  have g2 := mul_abs (x := n) (y := x.2) hn.1 hn.2 h2.1 h2.2
  unfold mulR v_in
  split <;> simp only <;> omega
theorem mulR_mem {n a : Int} {x : Int × Int} (h1 : x.1 ≤ a) (h2 : a ≤ x.2) : (mulR n x).1 ≤ n * a ∧ n * a ≤ (mulR n x).2 := by
  unfold mulR
  split
  · rename_i h
    exact ⟨Int.mul_le_mul_of_nonpos_left (by omega) h2, Int.mul_le_mul_of_nonpos_left (by omega) h1⟩
  · exact ⟨Int.mul_le_mul_of_nonneg_left h1 (by omega), Int.mul_le_mul_of_nonneg_left h2 (by omega)⟩
theorem mulR_mono {n : Int} {x y : Int × Int} (h1 : y.1 ≤ x.1) (h2 : x.2 ≤ y.2) (h3 : x.1 ≤ x.2) : (mulR n y).1 ≤ (mulR n x).1 ∧ (mulR n x).1 ≤ (mulR n x).2 ∧ (mulR n x).2 ≤ (mulR n y).2 := by
  unfold mulR
  split
  · rename_i h
    exact ⟨Int.mul_le_mul_of_nonpos_left (by omega) h2, Int.mul_le_mul_of_nonpos_left (by omega) h3, Int.mul_le_mul_of_nonpos_left (by omega) h1⟩
  · exact ⟨Int.mul_le_mul_of_nonneg_left h1 (by omega), Int.mul_le_mul_of_nonneg_left h3 (by omega), Int.mul_le_mul_of_nonneg_left h2 (by omega)⟩
theorem rowR_mem {n v : Int × Int × Int} {l : R3} (h0 : l.1.1 ≤ v.1 ∧ v.1 ≤ l.1.2) (h1 : l.2.1.1 ≤ v.2.1 ∧ v.2.1 ≤ l.2.1.2) (h2 : l.2.2.1 ≤ v.2.2 ∧ v.2.2 ≤ l.2.2.2) : (rowR n l).1 ≤ dot n v ∧ dot n v ≤ (rowR n l).2 := by
  have g0 := mulR_mem (n := n.1) h0.1 h0.2
  have g1 := mulR_mem (n := n.2.1) h1.1 h1.2
  have g2 := mulR_mem (n := n.2.2) h2.1 h2.2
  unfold rowR dot
  exact ⟨by simp only; omega, by simp only; omega⟩
theorem rowR_mono {n : Int × Int × Int} {l k : R3} (h0 : k.1.1 ≤ l.1.1 ∧ l.1.2 ≤ k.1.2 ∧ l.1.1 ≤ l.1.2) (h1 : k.2.1.1 ≤ l.2.1.1 ∧ l.2.1.2 ≤ k.2.1.2 ∧ l.2.1.1 ≤ l.2.1.2) (h2 : k.2.2.1 ≤ l.2.2.1 ∧ l.2.2.2 ≤ k.2.2.2 ∧ l.2.2.1 ≤ l.2.2.2) : (rowR n k).1 ≤ (rowR n l).1 ∧ (rowR n l).1 ≤ (rowR n l).2 ∧ (rowR n l).2 ≤ (rowR n k).2 := by
  have g0 := mulR_mono (n := n.1) h0.1 h0.2.1 h0.2.2
  have g1 := mulR_mono (n := n.2.1) h1.1 h1.2.1 h1.2.2
  have g2 := mulR_mono (n := n.2.2) h2.1 h2.2.1 h2.2.2
  unfold rowR
  exact ⟨by simp only; omega, by simp only; omega, by simp only; omega⟩
theorem roundR_mono {x y : Int × Int} {d : Int} (hd : 0 < d) (h : y.1 ≤ x.1 ∧ x.1 ≤ x.2 ∧ x.2 ≤ y.2) : (roundR y d).1 ≤ (roundR x d).1 ∧ (roundR x d).1 ≤ (roundR x d).2 ∧ (roundR x d).2 ≤ (roundR y d).2 :=
  ⟨fdiv_mono hd h.1, fdiv_le_cdiv' hd h.2.1, cdiv_mono hd h.2.2⟩
theorem roundR_mem {x : Int × Int} {a d : Int} (hd : 0 < d) (h : x.1 ≤ d * a ∧ d * a ≤ x.2) : (roundR x d).1 ≤ a ∧ a ≤ (roundR x d).2 := by
  have h1 := fdiv_mono hd h.1
  have h2 := cdiv_mono hd h.2
  have e1 : d * a / d = a := Int.mul_ediv_cancel_left _ (by omega)
  have e2 : cdiv (d * a) d = a := by unfold cdiv; rw [← Int.mul_neg, Int.mul_ediv_cancel_left _ (by omega)]; omega
  unfold roundR
  exact ⟨by simp only; omega, by simp only; omega⟩
/-- What is rounded encloses what was divided. -/
theorem roundR_wide {x : Int × Int} {d : Int} (hd : 0 < d) : d * (roundR x d).1 ≤ x.1 ∧ x.2 ≤ d * (roundR x d).2 := by
  have h1 := Int.mul_ediv_self_le (x := x.1) (k := d) (by omega)
  have h2 := Int.mul_ediv_self_le (x := -x.2) (k := d) (by omega)
  unfold roundR cdiv
  refine ⟨h1, ?_⟩
  simp only
  rw [Int.mul_neg]; omega
theorem v_gcd_dvd (a b : Int) : v_gcd a b ∣ a ∧ v_gcd a b ∣ b := ⟨Int.gcd_dvd_left _ _, Int.gcd_dvd_right _ _⟩
theorem div_dvd (x : CI) : (v_div x ∣ x.1.1.1 ∧ v_div x ∣ x.1.1.2.1 ∧ v_div x ∣ x.1.1.2.2) ∧ (v_div x ∣ x.1.2.1.1 ∧ v_div x ∣ x.1.2.1.2.1 ∧ v_div x ∣ x.1.2.1.2.2) ∧ (v_div x ∣ x.1.2.2.1 ∧ v_div x ∣ x.1.2.2.2.1 ∧ v_div x ∣ x.1.2.2.2.2) ∧ v_div x ∣ x.2 := by
  have h1 := v_gcd_dvd x.2 x.1.1.1
  have h2 := v_gcd_dvd (v_gcd x.2 x.1.1.1) x.1.1.2.1
  have h3 := v_gcd_dvd (v_gcd (v_gcd x.2 x.1.1.1) x.1.1.2.1) x.1.1.2.2
  have h4 := v_gcd_dvd (v_gcd (v_gcd (v_gcd x.2 x.1.1.1) x.1.1.2.1) x.1.1.2.2) x.1.2.1.1
  have h5 := v_gcd_dvd (v_gcd (v_gcd (v_gcd (v_gcd x.2 x.1.1.1) x.1.1.2.1) x.1.1.2.2) x.1.2.1.1) x.1.2.1.2.1
  have h6 := v_gcd_dvd (v_gcd (v_gcd (v_gcd (v_gcd (v_gcd x.2 x.1.1.1) x.1.1.2.1) x.1.1.2.2) x.1.2.1.1) x.1.2.1.2.1) x.1.2.1.2.2
  have h7 := v_gcd_dvd (v_gcd (v_gcd (v_gcd (v_gcd (v_gcd (v_gcd x.2 x.1.1.1) x.1.1.2.1) x.1.1.2.2) x.1.2.1.1) x.1.2.1.2.1) x.1.2.1.2.2) x.1.2.2.1
  have h8 := v_gcd_dvd (v_gcd (v_gcd (v_gcd (v_gcd (v_gcd (v_gcd (v_gcd x.2 x.1.1.1) x.1.1.2.1) x.1.1.2.2) x.1.2.1.1) x.1.2.1.2.1) x.1.2.1.2.2) x.1.2.2.1) x.1.2.2.2.1
  have h9 := v_gcd_dvd (v_gcd (v_gcd (v_gcd (v_gcd (v_gcd (v_gcd (v_gcd (v_gcd x.2 x.1.1.1) x.1.1.2.1) x.1.1.2.2) x.1.2.1.1) x.1.2.1.2.1) x.1.2.1.2.2) x.1.2.2.1) x.1.2.2.2.1) x.1.2.2.2.2
  have k8 := Int.dvd_trans h9.1 h8.1
  have k7 := Int.dvd_trans k8 h7.1
  have k6 := Int.dvd_trans k7 h6.1
  have k5 := Int.dvd_trans k6 h5.1
  have k4 := Int.dvd_trans k5 h4.1
  have k3 := Int.dvd_trans k4 h3.1
  have k2 := Int.dvd_trans k3 h2.1
  have k1 := Int.dvd_trans k2 h1.1
  exact ⟨⟨Int.dvd_trans k2 h1.2, Int.dvd_trans k3 h2.2, Int.dvd_trans k4 h3.2⟩, ⟨Int.dvd_trans k5 h4.2, Int.dvd_trans k6 h5.2, Int.dvd_trans k7 h6.2⟩, ⟨Int.dvd_trans k8 h7.2, Int.dvd_trans h9.1 h8.2, h9.2⟩, k1⟩
/-- A row times a number. -/
def rowM (g : Int) (r : Int × Int × Int) : Int × Int × Int := (g * r.1, g * r.2.1, g * r.2.2)
theorem lowest_mul (x : CI) : rowM (v_div x) (v_lowest x).1.1 = x.1.1 ∧ rowM (v_div x) (v_lowest x).1.2.1 = x.1.2.1 ∧ rowM (v_div x) (v_lowest x).1.2.2 = x.1.2.2 ∧ v_div x * (v_lowest x).2 = x.2 := by
  obtain ⟨⟨a0, a1, a2⟩, ⟨b0, b1, b2⟩, ⟨c0, c1, c2⟩, d⟩ := div_dvd x
  have k : ∀ {n : Int}, v_div x ∣ n → v_div x * n.tdiv (v_div x) = n := fun h => Int.mul_tdiv_cancel' h
  refine ⟨?_, ?_, ?_, k d⟩
  · exact Prod.ext (k a0) (Prod.ext (k a1) (k a2))
  · exact Prod.ext (k b0) (Prod.ext (k b1) (k b2))
  · exact Prod.ext (k c0) (Prod.ext (k c1) (k c2))
/-- What a number of at least 1 times another one is within. -/
theorem in_of_mul {g n m : Int} (hg : 1 ≤ g) (h : v_in m (g * n)) : v_in m n := by
  unfold v_in at *
  rcases Int.le_total 0 n with h0 | h0
  · have := Int.mul_le_mul_of_nonneg_right hg h0; rw [Int.one_mul] at this; omega
  · have := Int.mul_le_mul_of_nonneg_right (c := -n) hg (by omega); rw [Int.one_mul, Int.mul_neg] at this; omega

/-- A matrix times values. -/
def mulV (m : M3) (v : Int × Int × Int) : Int × Int × Int := (dot m.1 v, dot m.2.1 v, dot m.2.2 v)
theorem cof_mul (m : M3) (v : Int × Int × Int) : mulV (v_cof m) (mulV m v) = rowM (v_det m) v := by
  obtain ⟨⟨a, b, c⟩, ⟨d, e, f⟩, ⟨g, k, i⟩⟩ := m
  obtain ⟨x, y, z⟩ := v
  simp only [mulV, dot, rowM, v_det, v_cof]
  refine Prod.ext ?_ (Prod.ext ?_ ?_) <;> simp only <;> grind
theorem mul_cof (m : M3) (v : Int × Int × Int) : mulV m (mulV (v_cof m) v) = rowM (v_det m) v := by
  obtain ⟨⟨a, b, c⟩, ⟨d, e, f⟩, ⟨g, k, i⟩⟩ := m
  obtain ⟨x, y, z⟩ := v
  simp only [mulV, dot, rowM, v_det, v_cof]
  refine Prod.ext ?_ (Prod.ext ?_ ?_) <;> simp only <;> grind
theorem dot_rowM (g : Int) (n v : Int × Int × Int) : dot (rowM g n) v = g * dot n v := by
  simp only [dot, rowM, Int.mul_add, Int.mul_assoc]
theorem dot_rowM' (g : Int) (n v : Int × Int × Int) : dot n (rowM g v) = g * dot n v := by
  simp only [dot, rowM, Int.mul_add, Int.mul_left_comm]
/-- The numbers of the inverse times what was divided out. -/
structure v_lows (m : M3) (x : CI) (g : Int) : Prop where
  pos : 1 ≤ g
  r0 : rowM g x.1.1 = rowM 1000 (v_cof m).1
  r1 : rowM g x.1.2.1 = rowM 1000 (v_cof m).2.1
  r2 : rowM g x.1.2.2 = rowM 1000 (v_cof m).2.2
  den : g * x.2 = v_det m
theorem inv_lows {r : CR} (h : v_rules r) : v_lows r.2.2.2.2.2.2.2.1 (v_inv r) (v_div (v_inv0 r.2.2.2.2.2.2.2.1)) := by
  have d := (tx_inv0 (tx_mat h)).den
  have l := lowest_mul (v_inv0 r.2.2.2.2.2.2.2.1)
  exact ⟨(v_div_in d.1).1, l.1, l.2.1, l.2.2.1, l.2.2.2⟩
theorem lows_dot {m : M3} {x : CI} {g : Int} (h : v_lows m x g) (v : Int × Int × Int) : g * dot x.1.1 v = 1000 * dot (v_cof m).1 v ∧ g * dot x.1.2.1 v = 1000 * dot (v_cof m).2.1 v ∧ g * dot x.1.2.2 v = 1000 * dot (v_cof m).2.2 v :=
  ⟨by rw [← dot_rowM, h.r0, dot_rowM], by rw [← dot_rowM, h.r1, dot_rowM], by rw [← dot_rowM, h.r2, dot_rowM]⟩
theorem cancel_g {g a b : Int} (hg : 1 ≤ g) (h : g * a = g * b) : a = b := Int.eq_of_mul_eq_mul_left (by omega) h
/-- The inverse times the matrix, and the matrix times the inverse, are 1000 times the denominator. -/
theorem inv_mul {m : M3} {x : CI} {g : Int} (h : v_lows m x g) (v : Int × Int × Int) : mulV x.1 (mulV m v) = rowM (1000 * x.2) v := by
  have l := lows_dot h (mulV m v)
  have c := cof_mul m v
  have hd := h.den
  have c0 : dot (v_cof m).1 (mulV m v) = v_det m * v.1 := congrArg (·.1) c
  have c1 : dot (v_cof m).2.1 (mulV m v) = v_det m * v.2.1 := congrArg (·.2.1) c
  have c2 : dot (v_cof m).2.2 (mulV m v) = v_det m * v.2.2 := congrArg (·.2.2) c
  refine Prod.ext (cancel_g h.pos ?_) (Prod.ext (cancel_g h.pos ?_) (cancel_g h.pos ?_))
  · show g * dot x.1.1 (mulV m v) = g * (1000 * x.2 * v.1)
    rw [l.1, c0, ← hd]; grind
  · show g * dot x.1.2.1 (mulV m v) = g * (1000 * x.2 * v.2.1)
    rw [l.2.1, c1, ← hd]; grind
  · show g * dot x.1.2.2 (mulV m v) = g * (1000 * x.2 * v.2.2)
    rw [l.2.2, c2, ← hd]; grind
theorem mulV_rowM (m : M3) (g : Int) (v : Int × Int × Int) : mulV m (rowM g v) = rowM g (mulV m v) := by
  unfold mulV; rw [dot_rowM', dot_rowM', dot_rowM']; rfl
theorem lows_mulV {m : M3} {x : CI} {g : Int} (h : v_lows m x g) (v : Int × Int × Int) : rowM g (mulV x.1 v) = rowM 1000 (mulV (v_cof m) v) := by
  have l := lows_dot h v
  exact Prod.ext l.1 (Prod.ext l.2.1 l.2.2)
theorem mul_inv {m : M3} {x : CI} {g : Int} (h : v_lows m x g) (v : Int × Int × Int) : mulV m (mulV x.1 v) = rowM (1000 * x.2) v := by
  have e : rowM g (mulV m (mulV x.1 v)) = rowM g (rowM (1000 * x.2) v) := by
    rw [← mulV_rowM, lows_mulV h, mulV_rowM, mul_cof, ← h.den]
    refine Prod.ext ?_ (Prod.ext ?_ ?_) <;> simp only [rowM] <;> grind
  have e0 := congrArg (·.1) e
  have e1 := congrArg (·.2.1) e
  have e2 := congrArg (·.2.2) e
  exact Prod.ext (cancel_g h.pos e0) (Prod.ext (cancel_g h.pos e1) (cancel_g h.pos e2))
/-- The columns of a matrix add up to 1000 each: so do values that it mixes. -/
theorem sum_mul {m : M3} (h : v_mat m) (v : Int × Int × Int) : (mulV m v).1 + (mulV m v).2.1 + (mulV m v).2.2 = 1000 * (v.1 + v.2.1 + v.2.2) := by
  have s0 := h.c0.all
  have s1 := h.c1.all
  have s2 := h.c2.all
  obtain ⟨⟨a, b, c⟩, ⟨d, e, f⟩, ⟨g, k, i⟩⟩ := m
  obtain ⟨x, y, z⟩ := v
  simp only at s0 s1 s2
  simp only [mulV, dot]
  have ha : a = 1000 - d - g := by omega
  have hb : b = 1000 - e - k := by omega
  have hc : c = 1000 - f - i := by omega
  subst ha hb hc
  grind
theorem sum_inv {m : M3} {x : CI} {g : Int} (hm : v_mat m) (h : v_lows m x g) (v : Int × Int × Int) : (mulV x.1 v).1 + (mulV x.1 v).2.1 + (mulV x.1 v).2.2 = x.2 * (v.1 + v.2.1 + v.2.2) := by
  have e := sum_mul hm (mulV x.1 v)
  rw [mul_inv h] at e
  simp only [rowM] at e
  have e' : 1000 * (x.2 * (v.1 + v.2.1 + v.2.2)) = 1000 * ((mulV x.1 v).1 + (mulV x.1 v).2.1 + (mulV x.1 v).2.2) := by rw [← e]; grind
  omega
theorem inv_den {m : M3} {x : CI} {g : Int} (hm : v_mat m) (h : v_lows m x g) : 1 ≤ x.2 := by
  have d := tx_det hm
  have e := h.den
  have p := h.pos
  rcases Int.lt_or_le 0 x.2 with h0 | h0
  · omega
  · have := Int.mul_le_mul_of_nonneg_left (c := g) h0 (by omega)
    rw [Int.mul_zero] at this; omega
theorem inv_in {m : M3} {x : CI} {g : Int} (hm : v_mat m) (h : v_lows m x g) : v_row 1000000000 x.1.1 ∧ v_row 1000000000 x.1.2.1 ∧ v_row 1000000000 x.1.2.2 := by
  obtain ⟨⟨a0, a1, a2⟩, ⟨b0, b1, b2⟩, ⟨c0, c1, c2⟩⟩ := tx_cof hm
  have k : ∀ {n c : Int}, g * n = 1000 * c → v_in 1000000 c → v_in 1000000000 n := fun {n c} e hc => in_of_mul h.pos (by rw [e]; unfold v_in at *; omega)
  have e0 := h.r0
  have e1 := h.r1
  have e2 := h.r2
  exact ⟨⟨k (congrArg (·.1) e0) a0, k (congrArg (·.2.1) e0) a1, k (congrArg (·.2.2) e0) a2⟩, ⟨k (congrArg (·.1) e1) b0, k (congrArg (·.2.1) e1) b1, k (congrArg (·.2.2) e1) b2⟩, ⟨k (congrArg (·.1) e2) c0, k (congrArg (·.2.1) e2) c1, k (congrArg (·.2.2) e2) c2⟩⟩
/-- The products of two columns of shares, one taken from the other, times values. -/
theorem cross_in {p q v : Int × Int × Int} {b : Int} (hb : 0 ≤ b) (p0 : 0 ≤ p.1) (p1 : 0 ≤ p.2.1) (p2 : 0 ≤ p.2.2) (ps : p.1 + p.2.1 + p.2.2 = 1000) (q0 : 0 ≤ q.1) (q1 : 0 ≤ q.2.1) (q2 : 0 ≤ q.2.2) (qs : q.1 + q.2.1 + q.2.2 = 1000) (v0 : v_in b v.1) (v1 : v_in b v.2.1) (v2 : v_in b v.2.2) :
    v_in (1000000 * b) (dot (p.2.1 * q.2.2 - p.2.2 * q.2.1, p.2.2 * q.1 - p.1 * q.2.2, p.1 * q.2.1 - p.2.1 * q.1) v) := by
  obtain ⟨p, r, s⟩ := p
  obtain ⟨q, t, u⟩ := q
  obtain ⟨x, y, z⟩ := v
  simp only at *
  have key : ∀ {k w : Int}, 0 ≤ k → v_in b w → -(k * b) ≤ k * w ∧ k * w ≤ k * b := by
    intro k w hk hw
    have h1 := Int.mul_le_mul_of_nonneg_left hw.1 hk
    have h2 := Int.mul_le_mul_of_nonneg_left hw.2 hk
    rw [Int.mul_neg] at h1
    exact ⟨h1, h2⟩
  have e : (p + r + s) * (q + t + u) * b = 1000000 * b := by rw [ps, qs]; rfl
  have e2 : (p + r + s) * (q + t + u) * b = p * q * b + p * t * b + p * u * b + r * q * b + r * t * b + r * u * b + s * q * b + s * t * b + s * u * b := by grind
  have e3 : dot (r * u - s * t, s * q - p * u, p * t - r * q) (x, y, z) = r * u * x - s * t * x + s * q * y - p * u * y + p * t * z - r * q * z := by simp only [dot]; grind
  have a1 := key (Int.mul_nonneg p1 q2) v0
  have a2 := key (Int.mul_nonneg p2 q1) v0
  have a3 := key (Int.mul_nonneg p2 q0) v1
  have a4 := key (Int.mul_nonneg p0 q2) v1
  have a5 := key (Int.mul_nonneg p0 q1) v2
  have a6 := key (Int.mul_nonneg p1 q0) v2
  have b1 := Int.mul_nonneg (Int.mul_nonneg p0 q0) hb
  have b2 := Int.mul_nonneg (Int.mul_nonneg p1 q1) hb
  have b3 := Int.mul_nonneg (Int.mul_nonneg p2 q2) hb
  rw [e3]
  unfold v_in
  omega
theorem cof_in {m : M3} (h : v_mat m) {v : Int × Int × Int} {b : Int} (hb : 0 ≤ b) (v0 : v_in b v.1) (v1 : v_in b v.2.1) (v2 : v_in b v.2.2) : v_in (1000000 * b) (dot (v_cof m).1 v) ∧ v_in (1000000 * b) (dot (v_cof m).2.1 v) ∧ v_in (1000000 * b) (dot (v_cof m).2.2 v) := by
  obtain ⟨⟨a, b', c⟩, ⟨d, e, f⟩, ⟨g, k, i⟩⟩ := m
  obtain ⟨⟨a0, d0, g0, s0, _⟩, ⟨b0, e0, k0, s1, _⟩, ⟨c0, f0, i0, s2, _⟩⟩ := h
  simp only at a0 d0 g0 s0 b0 e0 k0 s1 c0 f0 i0 s2
  have h1 := cross_in (p := (b', e, k)) (q := (c, f, i)) hb b0.1 e0.1 k0.1 s1 c0.1 f0.1 i0.1 s2 v0 v1 v2
  have h2 := cross_in (p := (c, f, i)) (q := (a, d, g)) hb c0.1 f0.1 i0.1 s2 a0.1 d0.1 g0.1 s0 v0 v1 v2
  have h3 := cross_in (p := (a, d, g)) (q := (b', e, k)) hb a0.1 d0.1 g0.1 s0 b0.1 e0.1 k0.1 s1 v0 v1 v2
  refine ⟨?_, ?_, ?_⟩
  · have : dot (v_cof ((a, b', c), (d, e, f), (g, k, i))).1 v = dot (e * i - k * f, k * c - b' * i, b' * f - e * c) v := by
      simp only [v_cof, dot]; grind
    rw [this]; exact h1
  · have : dot (v_cof ((a, b', c), (d, e, f), (g, k, i))).2.1 v = dot (f * g - i * d, i * a - c * g, c * d - f * a) v := by
      simp only [v_cof, dot]; grind
    rw [this]; exact h2
  · have : dot (v_cof ((a, b', c), (d, e, f), (g, k, i))).2.2 v = dot (d * k - g * e, g * b' - a * k, a * e - d * b') v := by
      simp only [v_cof, dot]; grind
    rw [this]; exact h3
theorem det_le {m : M3} (h : v_mat m) : v_det m ≤ 1000000000 := by
  obtain ⟨⟨a, b, c⟩, ⟨d, e, f⟩, ⟨g, k, i⟩⟩ := m
  obtain ⟨⟨a0, d0, g0, s0, o0⟩, ⟨b0, e0, k0, s1, o1⟩, ⟨c0, f0, i0, s2, o2⟩⟩ := h
  simp only at a0 d0 g0 s0 o0 b0 e0 k0 s1 o1 c0 f0 i0 s2 o2
  have hd : v_det ((a, b, c), (d, e, f), (g, k, i)) = 1000 * (e * i - e * g - d * i - f * k + f * g + d * k) := by
    have ha : a = 1000 - d - g := by omega
    have hb : b = 1000 - e - k := by omega
    have hc : c = 1000 - f - i := by omega
    subst ha hb hc
    simp only [v_det, v_cof]
    grind
  rw [hd]
  have p1 : e * i ≤ (1000 - k) * (1000 - f) := Int.mul_le_mul (by omega) (by omega) (by omega) (by omega)
  have p2 : (1000 - k) * (1000 - f) = 1000000 - 1000 * k - 1000 * f + f * k := by grind
  have p3 := mul_in e0.1 e0.2 g0.1 g0.2
  have p4 := mul_in d0.1 d0.2 i0.1 i0.2
  have p5 : f * g ≤ f * 400 := Int.mul_le_mul_of_nonneg_left (by omega) f0.1
  have p6 : d * k ≤ 400 * k := Int.mul_le_mul_of_nonneg_right (by omega) k0.1
  omega
/-- What is stripped of values of some size. -/
theorem inv_dot_in {m : M3} {x : CI} {g : Int} (hm : v_mat m) (h : v_lows m x g) {v : Int × Int × Int} {b c : Int} (hb : 0 ≤ b) (v0 : v_in b v.1) (v1 : v_in b v.2.1) (v2 : v_in b v.2.2) (hc : 1000000000 * b ≤ 120000000 * c) : v_in (c * x.2) (dot x.1.1 v) ∧ v_in (c * x.2) (dot x.1.2.1 v) ∧ v_in (c * x.2) (dot x.1.2.2 v) := by
  have l := lows_dot h v
  have q := cof_in hm hb v0 v1 v2
  have d := (tx_det hm).1
  have p := h.pos
  have e : g * (c * x.2) = c * v_det m := by rw [← h.den]; grind
  have e2 : 120000000 * c ≤ c * v_det m := by rw [Int.mul_comm]; exact Int.mul_le_mul_of_nonneg_left d (by omega)
  have k : ∀ {n k : Int}, g * n = 1000 * k → v_in (1000000 * b) k → v_in (c * x.2) n := by
    intro n k h1 h2
    unfold v_in at *
    have h3 : g * n ≤ g * (c * x.2) := by omega
    have h4 : g * (-(c * x.2)) ≤ g * n := by rw [Int.mul_neg]; omega
    exact ⟨Int.le_of_mul_le_mul_left h4 (by omega), Int.le_of_mul_le_mul_left h3 (by omega)⟩
  exact ⟨k l.1 q.1, k l.2.1 q.2.1, k l.2.2 q.2.2⟩
structure v_r3 (b : Int) (l : R3) : Prop where
  a0 : v_in b l.1.1
  a1 : v_in b l.1.2
  b0 : v_in b l.2.1.1
  b1 : v_in b l.2.1.2
  c0 : v_in b l.2.2.1
  c1 : v_in b l.2.2.2
theorem mulR_pick {b : Int} (n : Int) {x : Int × Int} (h1 : v_in b x.1) (h2 : v_in b x.2) : (∃ v, v_in b v ∧ (mulR n x).1 = n * v) ∧ ∃ v, v_in b v ∧ (mulR n x).2 = n * v := by
  unfold mulR
  split
  · exact ⟨⟨_, h2, rfl⟩, ⟨_, h1, rfl⟩⟩
  · exact ⟨⟨_, h1, rfl⟩, ⟨_, h2, rfl⟩⟩
theorem rowR_pick {b : Int} (n : Int × Int × Int) {l : R3} (h : v_r3 b l) : (∃ v : Int × Int × Int, (v_in b v.1 ∧ v_in b v.2.1 ∧ v_in b v.2.2) ∧ (rowR n l).1 = dot n v) ∧ ∃ v : Int × Int × Int, (v_in b v.1 ∧ v_in b v.2.1 ∧ v_in b v.2.2) ∧ (rowR n l).2 = dot n v := by
  obtain ⟨⟨a, a1, a2⟩, a', a3, a4⟩ := mulR_pick n.1 h.a0 h.a1
  obtain ⟨⟨c, c1, c2⟩, c', c3, c4⟩ := mulR_pick n.2.1 h.b0 h.b1
  obtain ⟨⟨d, d1, d2⟩, d', d3, d4⟩ := mulR_pick n.2.2 h.c0 h.c1
  unfold rowR dot
  exact ⟨⟨(a, c, d), ⟨a1, c1, d1⟩, by simp only [a2, c2, d2]⟩, ⟨(a', c', d'), ⟨a3, c3, d3⟩, by simp only [a4, c4, d4]⟩⟩
/-- Stripped values of ranges of some size. -/
theorem prodR_inv_in {m : M3} {x : CI} {g : Int} (hm : v_mat m) (h : v_lows m x g) {l : R3} {b c : Int} (hb : 0 ≤ b) (hl : v_r3 b l) (hc : 1000000000 * b ≤ 120000000 * c) : v_r3 c (prodR x.1 l x.2) := by
  have hd := inv_den hm h
  obtain ⟨⟨v, v0, v1⟩, w, w0, w1⟩ := rowR_pick x.1.1 hl
  obtain ⟨⟨v', v0', v1'⟩, w', w0', w1'⟩ := rowR_pick x.1.2.1 hl
  obtain ⟨⟨v'', v0'', v1''⟩, w'', w0'', w1''⟩ := rowR_pick x.1.2.2 hl
  have a := (inv_dot_in hm h hb v0.1 v0.2.1 v0.2.2 hc).1
  have a' := (inv_dot_in hm h hb w0.1 w0.2.1 w0.2.2 hc).1
  have e := (inv_dot_in hm h hb v0'.1 v0'.2.1 v0'.2.2 hc).2.1
  have e' := (inv_dot_in hm h hb w0'.1 w0'.2.1 w0'.2.2 hc).2.1
  have f := (inv_dot_in hm h hb v0''.1 v0''.2.1 v0''.2.2 hc).2.2
  have f' := (inv_dot_in hm h hb w0''.1 w0''.2.1 w0''.2.2 hc).2.2
  rw [← v1] at a; rw [← w1] at a'; rw [← v1'] at e; rw [← w1'] at e'; rw [← v1''] at f; rw [← w1''] at f'
  exact ⟨(fdiv_in (by omega) a).1, (fdiv_in (by omega) a').2, (fdiv_in (by omega) e).1, (fdiv_in (by omega) e').2, (fdiv_in (by omega) f).1, (fdiv_in (by omega) f').2⟩

/-- The code's product, where nothing wraps. -/
theorem times_eq {x : Int × Int} {n a b : Int} (hn : v_in a n) (h1 : v_in b x.1) (h2 : v_in b x.2) (ha : 0 ≤ a) (hb : 0 ≤ b) (hab : a * b ≤ 3000000000000000000) : s_counts_times x n = mulR n x := by
  have g1 := mul_abs (x := n) (y := x.1) hn.1 hn.2 h1.1 h1.2
  have g2 := mul_abs (x := n) (y := x.2) hn.1 hn.2 h2.1 h2.2
  unfold s_counts_times mulR
  rw [wrap_id (n := n * x.1) (by omega) (by omega), wrap_id (n := n * x.2) (by omega) (by omega)]
  by_cases h : n < 0
  · rw [if_pos h, decide_eq_true h]; rfl
  · rw [if_neg h, decide_eq_false h]; rfl
theorem row_eq {n : Int × Int × Int} {l : R3} {a b : Int} (hn : v_row a n) (hl : v_r3 b l) (ha : 0 ≤ a) (hb : 0 ≤ b) (hab : a * b ≤ 3000000000000000000) : s_counts_sum (s_counts_sum (s_counts_sum (0, 0) (s_counts_times l.1 n.1)) (s_counts_times l.2.1 n.2.1)) (s_counts_times l.2.2 n.2.2) = rowR n l ∧ v_in 9000000000000000000 (rowR n l).1 ∧ v_in 9000000000000000000 (rowR n l).2 := by
  have q0 := mulR_in hn.a hl.a0 hl.a1 ha hb
  have q1 := mulR_in hn.b hl.b0 hl.b1 ha hb
  have q2 := mulR_in hn.c hl.c0 hl.c1 ha hb
  rw [times_eq hn.a hl.a0 hl.a1 ha hb hab, times_eq hn.b hl.b0 hl.b1 ha hb hab, times_eq hn.c hl.c0 hl.c1 ha hb hab]
  unfold v_in at *
  unfold s_counts_sum rowR
  simp only [Int.zero_add]
  refine ⟨?_, by omega, by omega⟩
  rw [wrap_id (n := (mulR n.1 l.1).1) (by omega) (by omega), wrap_id (n := (mulR n.1 l.1).2) (by omega) (by omega), wrap_id (n := (mulR n.1 l.1).1 + (mulR n.2.1 l.2.1).1) (by omega) (by omega), wrap_id (n := (mulR n.1 l.1).2 + (mulR n.2.1 l.2.1).2) (by omega) (by omega), wrap_id (by omega) (by omega), wrap_id (by omega) (by omega)]
theorem product_eq {m : M3} {l : R3} {d a b : Int} (h0 : v_row a m.1) (h1 : v_row a m.2.1) (h2 : v_row a m.2.2) (hl : v_r3 b l) (ha : 0 ≤ a) (hb : 0 ≤ b) (hab : a * b ≤ 3000000000000000000) (hd : 0 < d) : s_counts_product m l d = prodR m l d := by
  have r0 := row_eq h0 hl ha hb hab
  have r1 := row_eq h1 hl ha hb hab
  have r2 := row_eq h2 hl ha hb hab
  unfold v_in at *
  unfold s_counts_product prodR roundR
  rw [r0.1, r1.1, r2.1]
  rw [show rowR m.1 l = ((rowR m.1 l).1, (rowR m.1 l).2) from rfl, show rowR m.2.1 l = ((rowR m.2.1 l).1, (rowR m.2.1 l).2) from rfl, show rowR m.2.2 l = ((rowR m.2.2 l).1, (rowR m.2.2 l).2) from rfl]
  rw [rounded_eq (by omega) (by omega) hd, rounded_eq (by omega) (by omega) hd, rounded_eq (by omega) (by omega) hd]
theorem stripped_eq {r : CR} (h : v_rules r) {l : R3} (hl : v_r3 1000000000 l) : s_counts_rules_stripped r l = prodR (v_inv r).1 l (v_inv r).2 := by
  have i := inv_in (tx_mat h) (inv_lows h)
  exact product_eq i.1 i.2.1 i.2.2 hl (by omega) (by omega) (by omega) (by have := tx_invden h; omega)

structure v_ord (l : R3) : Prop where
  a : l.1.1 ≤ l.1.2
  b : l.2.1.1 ≤ l.2.1.2
  c : l.2.2.1 ≤ l.2.2.2
/-- Values of some size are valid. -/
theorem val_ok {x : Int × Int} (h1 : v_in 1000000000 x.1) (h2 : v_in 1000000000 x.2) (h3 : x.1 ≤ x.2) : s_counts_valueErr x = 0 := by
  unfold v_in at *
  unfold s_counts_valueErr s_counts_isValue s_counts_within
  rw [decide_eq_true (by omega : -1000000000 ≤ x.1), decide_eq_true (by omega : x.1 ≤ 1000000000), decide_eq_true (by omega : -1000000000 ≤ x.2), decide_eq_true (by omega : x.2 ≤ 1000000000), decide_eq_true h3]
  rfl
theorem vals_ok {l : R3} (h : v_r3 1000000000 l) (o : v_ord l) : v_vals l = 0 := by
  unfold v_vals
  rw [val_ok h.a0 h.a1 o.a, val_ok h.b0 h.b1 o.b, val_ok h.c0 h.c1 o.c]
  rfl
theorem v_r3.mono {b c : Int} {l : R3} (h : v_r3 b l) (hbc : b ≤ c) : v_r3 c l := by
  obtain ⟨a0, a1, b0, b1, c0, c1⟩ := h
  unfold v_in at *
  exact ⟨by unfold v_in; omega, by unfold v_in; omega, by unfold v_in; omega, by unfold v_in; omega, by unfold v_in; omega, by unfold v_in; omega⟩

/-- The background. -/
theorem back_in {m k c : Int} (hm : 0 ≤ m ∧ m ≤ 1000000) (hk : 0 ≤ k ∧ k ≤ 1000) (hc : 0 ≤ c ∧ c ≤ 100100) : IntKind.i64.wrap (m + IntKind.i64.wrap (k * c)) = m + k * c ∧ 0 ≤ k * c ∧ k * c ≤ 100100000 := by
  have g := mul_in hk.1 hk.2 hc.1 hc.2
  rw [w_add_r, wrap_id (by omega) (by omega)]
  omega
theorem back_eq {r : CR} {s : CS} (h : v_samp r s) : s_counts_rules_background r s = (r.2.2.1.1 + r.2.2.2.1.1 * s.2.2.1, r.2.2.1.2.1 + r.2.2.2.1.2.1 * s.2.2.1, r.2.2.1.2.2 + r.2.2.2.1.2.2 * s.2.2.1) := by
  have hc : 0 ≤ s.2.2.1 ∧ s.2.2.1 ≤ 100100 := by have := h.cosmic; omega
  unfold s_counts_rules_background
  rw [(back_in h.rules.air0 h.rules.cos0 hc).1, (back_in h.rules.air1 h.rules.cos1 hc).1, (back_in h.rules.air2 h.rules.cos2 hc).1]
/-- The radon of a count of the upward crystal. -/
def radonV (r : CR) (s : CS) (u : Int) : Int × Int :=
  ((1000000 * u - r.2.2.2.2.1 * ((liveV r s s.1.2.1).2 - (r.2.2.1.2.1 + r.2.2.2.1.2.1 * s.2.2.1))) / (r.2.2.2.2.2.1 - r.2.2.2.2.1), cdiv (1000000 * u - r.2.2.2.2.1 * ((liveV r s s.1.2.1).1 - (r.2.2.1.2.1 + r.2.2.2.1.2.1 * s.2.2.1))) (r.2.2.2.2.2.1 - r.2.2.2.2.1))
theorem radon_eq {r : CR} {s : CS} (h : v_samp r s) : s_counts_rules_radon r s = radonV r s s.2.2.2.1 := by
  obtain ⟨h1, h2, h3⟩ := tx_air h.rules
  have hg := h.rules.ground
  have hu := h.up
  have hb := back_in h.rules.air1 h.rules.cos1 (c := s.2.2.1) (by have := h.cosmic; omega)
  have hm := h.rules.air1
  have hl := liveV_in h h.raw1
  unfold v_in at hl
  have hd : decide (r.2.2.2.2.1 < 0) = false := decide_eq_false (by omega)
  have g1 := mul_abs (x := r.2.2.2.2.1) (y := (liveV r s s.1.2.1).1 - (r.2.2.1.2.1 + r.2.2.2.1.2.1 * s.2.2.1)) (a := 200) (b := 400000000) (by omega) (by omega) (by omega) (by omega)
  have g2 := mul_abs (x := r.2.2.2.2.1) (y := (liveV r s s.1.2.1).2 - (r.2.2.1.2.1 + r.2.2.2.1.2.1 * s.2.2.1)) (a := 200) (b := 400000000) (by omega) (by omega) (by omega) (by omega)
  unfold s_counts_rules_radon radonV
  rw [live_eq h, back_eq h, h1]
  simp only [s_counts_minus, s_counts_sum, s_counts_times, s_counts_single, hd, cond_false, show decide ((-1 : Int) < 0) = true from rfl, cond_true, w_mul_r, w_add_r, w_add_l, w_sub_r, w_sub_l, w_neg]
  rw [wrap_id (n := 1000000 * s.2.2.2.1 - r.2.2.2.2.1 * ((liveV r s s.1.2.1).2 - (r.2.2.1.2.1 + r.2.2.2.1.2.1 * s.2.2.1))) (by omega) (by omega), wrap_id (n := 1000000 * s.2.2.2.1 - r.2.2.2.2.1 * ((liveV r s s.1.2.1).1 - (r.2.2.1.2.1 + r.2.2.2.1.2.1 * s.2.2.1))) (by omega) (by omega)]
  exact rounded_eq (by omega) (by omega) (by omega)
/-- The radon lies within 250 millions. -/
theorem radonV_in {r : CR} {s : CS} (h : v_samp r s) : v_in 250000000 (radonV r s s.2.2.2.1).1 ∧ v_in 250000000 (radonV r s s.2.2.2.1).2 ∧ (radonV r s s.2.2.2.1).1 ≤ (radonV r s s.2.2.2.1).2 := by
  obtain ⟨_, h2, h3⟩ := tx_air h.rules
  have hg := h.rules.ground
  have hu := h.up
  have hb := back_in h.rules.air1 h.rules.cos1 (c := s.2.2.1) (by have := h.cosmic; omega)
  have hm := h.rules.air1
  have hl := liveV_in h h.raw1
  unfold v_in at hl
  have g : r.2.2.2.2.1 * ((liveV r s s.1.2.1).1 - (r.2.2.1.2.1 + r.2.2.2.1.2.1 * s.2.2.1)) ≤ r.2.2.2.2.1 * ((liveV r s s.1.2.1).2 - (r.2.2.1.2.1 + r.2.2.2.1.2.1 * s.2.2.1)) := Int.mul_le_mul_of_nonneg_left (by omega) hg.1
  have g1 := mul_abs (x := r.2.2.2.2.1) (y := (liveV r s s.1.2.1).1 - (r.2.2.1.2.1 + r.2.2.2.1.2.1 * s.2.2.1)) (a := 200) (b := 200000000) (by omega) (by omega) (by omega) (by omega)
  have g2 := mul_abs (x := r.2.2.2.2.1) (y := (liveV r s s.1.2.1).2 - (r.2.2.1.2.1 + r.2.2.2.1.2.1 * s.2.2.1)) (a := 200) (b := 200000000) (by omega) (by omega) (by omega) (by omega)
  have q1 := (fdiv_in (n := 1000000 * s.2.2.2.1 - r.2.2.2.2.1 * ((liveV r s s.1.2.1).2 - (r.2.2.1.2.1 + r.2.2.2.1.2.1 * s.2.2.1))) (d := r.2.2.2.2.2.1 - r.2.2.2.2.1) (m := 250000000) (by omega) (by unfold v_in; omega)).1
  have q2 := (fdiv_in (n := 1000000 * s.2.2.2.1 - r.2.2.2.2.1 * ((liveV r s s.1.2.1).1 - (r.2.2.1.2.1 + r.2.2.2.1.2.1 * s.2.2.1))) (d := r.2.2.2.2.2.1 - r.2.2.2.2.1) (m := 250000000) (by omega) (by unfold v_in; omega)).2
  exact ⟨q1, q2, fdiv_le_cdiv' (by omega) (by omega)⟩
/-- The part of the radon in one window. -/
def partV (r : CR) (s : CS) (k : Int) : Int × Int := (k * (radonV r s s.2.2.2.1).1 / 1000, cdiv (k * (radonV r s s.2.2.2.1).2) 1000)
theorem partV_in {r : CR} {s : CS} (h : v_samp r s) {k : Int} (hk : 0 ≤ k ∧ k ≤ 1000) : s_counts_rounded (s_counts_times (s_counts_rules_radon r s) k) 1000 = partV r s k ∧ v_in 250000000 (partV r s k).1 ∧ v_in 250000000 (partV r s k).2 ∧ (partV r s k).1 ≤ (partV r s k).2 := by
  obtain ⟨r1, r2, r3⟩ := radonV_in h
  have hd : decide (k < 0) = false := decide_eq_false (by omega)
  have g1 := mul_abs (x := k) (a := 1000) (by omega) (by omega) r1.1 r1.2
  have g2 := mul_abs (x := k) (a := 1000) (by omega) (by omega) r2.1 r2.2
  have g : k * (radonV r s s.2.2.2.1).1 ≤ k * (radonV r s s.2.2.2.1).2 := Int.mul_le_mul_of_nonneg_left r3 hk.1
  refine ⟨?_, (fdiv_in (by omega) (by unfold v_in; omega)).1, (fdiv_in (by omega) (by unfold v_in; omega)).2, fdiv_le_cdiv' (by omega) g⟩
  rw [radon_eq h]
  simp only [s_counts_times, hd, cond_false]
  rw [wrap_id (by omega) (by omega), wrap_id (by omega) (by omega)]
  exact rounded_eq (by omega) (by omega) (by omega)
/-- One window's net counts. -/
theorem net_one {r : CR} {s : CS} (h : v_samp r s) {a b k : Int} (ha : 0 ≤ a ∧ a ≤ 100000) (hb : 0 ≤ b ∧ b ≤ 102000000) (hk : 0 ≤ k ∧ k ≤ 1000) : s_counts_minus (s_counts_minus (liveV r s a) (s_counts_single b)) (partV r s k) = ((liveV r s a).1 - b - (partV r s k).2, (liveV r s a).2 - b - (partV r s k).1) ∧ v_in 500000000 ((liveV r s a).1 - b - (partV r s k).2) ∧ v_in 500000000 ((liveV r s a).2 - b - (partV r s k).1) ∧ (liveV r s a).1 - b - (partV r s k).2 ≤ (liveV r s a).2 - b - (partV r s k).1 := by
  have hl := liveV_in h ha
  obtain ⟨_, p1, p2, p3⟩ := partV_in h hk
  unfold v_in at *
  refine ⟨?_, by omega, by omega, by omega⟩
  simp only [s_counts_minus, s_counts_sum, s_counts_times, s_counts_single, show decide ((-1 : Int) < 0) = true from rfl, cond_true, w_mul_r, w_add_r, w_add_l, w_sub_r, w_sub_l, w_neg]
  rw [wrap_id (by omega) (by omega), wrap_id (by omega) (by omega)]
theorem net_in {r : CR} {s : CS} (h : v_samp r s) : v_r3 500000000 (s_counts_rules_net r s) ∧ v_ord (s_counts_rules_net r s) := by
  have hc : 0 ≤ s.2.2.1 ∧ s.2.2.1 ≤ 100100 := by have := h.cosmic; omega
  have b0 := back_in h.rules.air0 h.rules.cos0 hc
  have b1 := back_in h.rules.air1 h.rules.cos1 hc
  have b2 := back_in h.rules.air2 h.rules.cos2 hc
  have m0 := h.rules.air0
  have m1 := h.rules.air1
  have m2 := h.rules.air2
  have n0 := net_one h h.raw0 (b := r.2.2.1.1 + r.2.2.2.1.1 * s.2.2.1) (by omega) h.rules.rad0
  have n1 := net_one h h.raw1 (b := r.2.2.1.2.1 + r.2.2.2.1.2.1 * s.2.2.1) (by omega) (k := r.2.2.2.2.2.2.1.2.1) (by have := h.rules.rad1; omega)
  have n2 := net_one h h.raw2 (b := r.2.2.1.2.2 + r.2.2.2.1.2.2 * s.2.2.1) (by omega) h.rules.rad2
  have e : s_counts_rules_net r s = (((liveV r s s.1.1).1 - (r.2.2.1.1 + r.2.2.2.1.1 * s.2.2.1) - (partV r s r.2.2.2.2.2.2.1.1).2, (liveV r s s.1.1).2 - (r.2.2.1.1 + r.2.2.2.1.1 * s.2.2.1) - (partV r s r.2.2.2.2.2.2.1.1).1), ((liveV r s s.1.2.1).1 - (r.2.2.1.2.1 + r.2.2.2.1.2.1 * s.2.2.1) - (partV r s r.2.2.2.2.2.2.1.2.1).2, (liveV r s s.1.2.1).2 - (r.2.2.1.2.1 + r.2.2.2.1.2.1 * s.2.2.1) - (partV r s r.2.2.2.2.2.2.1.2.1).1), ((liveV r s s.1.2.2).1 - (r.2.2.1.2.2 + r.2.2.2.1.2.2 * s.2.2.1) - (partV r s r.2.2.2.2.2.2.1.2.2).2, (liveV r s s.1.2.2).2 - (r.2.2.1.2.2 + r.2.2.2.1.2.2 * s.2.2.1) - (partV r s r.2.2.2.2.2.2.1.2.2).1)) := by
    unfold s_counts_rules_net
    rw [live_eq h, back_eq h, (partV_in h h.rules.rad0).1, (partV_in h (k := r.2.2.2.2.2.2.1.2.1) (by have := h.rules.rad1; omega)).1, (partV_in h h.rules.rad2).1, n0.1, n1.1, n2.1]
  rw [e]
  exact ⟨⟨n0.2.1, n0.2.2.1, n1.2.1, n1.2.2.1, n2.2.1, n2.2.2.1⟩, ⟨n0.2.2.2, n1.2.2.2, n2.2.2.2⟩⟩

/-- The factor in lowest terms. -/
theorem fact_in {r : CR} {h : Int} (hv : v_rules r) (hh : s_counts_rules_has r h = true) : ((1 ≤ (v_fact r h).1 ∧ (v_fact r h).1 ≤ 10000000) ∧ 1 ≤ (v_fact r h).2 ∧ (v_fact r h).2 ≤ 1000000) ∧ ∃ g, 1 ≤ g ∧ g * (v_fact r h).1 = (v_factor r h).1 ∧ g * (v_fact r h).2 = (v_factor r h).2 := by
  have q := tx_fac_in hv hh
  have g := (v_gcd_in (a := (v_factor r h).1) (v_factor r h).2 (by omega)).1
  have d := v_gcd_dvd (v_factor r h).1 (v_factor r h).2
  have e1 : v_gcd (v_factor r h).1 (v_factor r h).2 * (v_fact r h).1 = (v_factor r h).1 := Int.mul_tdiv_cancel' d.1
  have e2 : v_gcd (v_factor r h).1 (v_factor r h).2 * (v_fact r h).2 = (v_factor r h).2 := Int.mul_tdiv_cancel' d.2
  have b1 := in_of_mul (m := 10000000) g (by rw [e1]; unfold v_in; omega)
  have b2 := in_of_mul (m := 1000000) g (by rw [e2]; unfold v_in; omega)
  have p : ∀ {n k : Int}, v_gcd (v_factor r h).1 (v_factor r h).2 * n = k → 1 ≤ k → 1 ≤ n := by
    intro n k e hk
    rcases Int.lt_or_le 0 n with h0 | h0
    · omega
    · have := Int.mul_le_mul_of_nonneg_left (c := v_gcd (v_factor r h).1 (v_factor r h).2) h0 (by omega)
      rw [Int.mul_zero] at this; omega
  have p1 := p e1 (by omega)
  have p2 := p e2 (by omega)
  unfold v_in at b1 b2
  exact ⟨⟨⟨p1, b1.2⟩, p2, b2.2⟩, _, g, e1, e2⟩
/-- One element's reduced counts are those that the factor in lowest terms gives. -/
theorem red_one {r : CR} {h : Int} (hv : v_rules r) (hh : s_counts_rules_has r h = true) {x : Int × Int} (h1 : v_in 20000000000 x.1) (h2 : v_in 20000000000 x.2) : s_counts_rounded (s_counts_times x (v_factor r h).1) (v_factor r h).2 = (s_counts_floor (IntKind.i64.wrap ((v_fact r h).1 * x.1)) (v_fact r h).2, s_counts_ceil (IntKind.i64.wrap ((v_fact r h).1 * x.2)) (v_fact r h).2) := by
  have q := tx_fac_in hv hh
  obtain ⟨⟨f1, f2⟩, g, g0, e1, e2⟩ := fact_in hv hh
  have hd : decide ((v_factor r h).1 < 0) = false := decide_eq_false (by omega)
  have a1 := mul_abs (x := (v_factor r h).1) (a := 10000000) (by omega) (by omega) h1.1 h1.2
  have a2 := mul_abs (x := (v_factor r h).1) (a := 10000000) (by omega) (by omega) h2.1 h2.2
  have c1 := mul_abs (x := (v_fact r h).1) (a := 10000000) (by omega) (by omega) h1.1 h1.2
  have c2 := mul_abs (x := (v_fact r h).1) (a := 10000000) (by omega) (by omega) h2.1 h2.2
  simp only [s_counts_times, hd, cond_false]
  rw [wrap_id (by omega) (by omega), wrap_id (by omega) (by omega), wrap_id (by omega) (by omega), wrap_id (by omega) (by omega), rounded_eq (by omega) (by omega) (by omega), floor_eq (by omega) (by omega), ceil_eq (by omega) (by omega), ← e1, ← e2]
  refine Prod.ext ?_ ?_
  · show g * (v_fact r h).1 * x.1 / (g * (v_fact r h).2) = _
    rw [Int.mul_assoc, Int.mul_ediv_mul_of_pos _ _ (by omega)]
  · show cdiv (g * (v_fact r h).1 * x.2) (g * (v_fact r h).2) = _
    unfold cdiv
    rw [Int.mul_assoc, ← Int.mul_neg, Int.mul_ediv_mul_of_pos _ _ (by omega)]
theorem bne_self0 {n : Int} : (n != n) = false := by simp
theorem plain_law06_CountsReduced (p0 : CR) (p1 : CS) (_ : okPs P_law06_CountsReduced (p0, p1)) : (∀ p ∈ pre_law06_CountsReduced p0 p1, p) ∧ s_law06_CountsReduced p0 p1 = true := by
  rcases hf : (!(s_law06_fewKnots p0)) with _ | _
  · have hl := few_of hf
    rcases hb : (v_both p0 p1 != 0) with _ | _
    · have hs := tx_vok hb
      have h0 : (s_counts_CheckRules p0).2 = 0 := v_both_rules (bne0 hb)
      have eR : s_counts_ReducedOf p0 p1 = (s_counts_rules_reducedCounts p0 p1, 0) := by unfold s_counts_ReducedOf; rw [hb]; rfl
      have eN : s_counts_NetOf p0 p1 = (s_counts_rules_net p0 p1, 0) := by unfold s_counts_NetOf; rw [hb]; rfl
      obtain ⟨n1, n2⟩ := net_in hs
      have hv0 := vals_ok (n1.mono (by omega)) n2
      have eS : s_counts_StrippedOf p0 (s_counts_rules_net p0 p1) = (s_counts_rules_stripped p0 (s_counts_rules_net p0 p1), 0) := by unfold s_counts_StrippedOf; rw [h0, hv0]; rfl
      have hh := hs.high
      obtain ⟨⟨f1, f2⟩, _⟩ := fact_in hs.rules hh
      have hx : v_r3 20000000000 (s_counts_rules_stripped p0 (s_counts_rules_net p0 p1)) := by
        rw [stripped_eq hs.rules (n1.mono (by omega))]
        exact prodR_inv_in (tx_mat hs.rules) (inv_lows hs.rules) (by omega) n1 (by omega)
      have w1 : s_base_Within (v_fact p0 p1.2.2.2.2).1 1 100000000 = true := tx_within.2 (by omega)
      have w2 : s_base_Within (v_fact p0 p1.2.2.2.2).2 1 1000000 = true := tx_within.2 (by omega)
      have x1 : s_base_Within (s_counts_rules_stripped p0 (s_counts_rules_net p0 p1)).1.1 (-20000000000) 20000000000 = true := tx_within.2 hx.a0
      have x2 : s_base_Within (s_counts_rules_stripped p0 (s_counts_rules_net p0 p1)).1.2 (-20000000000) 20000000000 = true := tx_within.2 hx.a1
      have x3 : s_base_Within (s_counts_rules_stripped p0 (s_counts_rules_net p0 p1)).2.1.1 (-20000000000) 20000000000 = true := tx_within.2 hx.b0
      have x4 : s_base_Within (s_counts_rules_stripped p0 (s_counts_rules_net p0 p1)).2.1.2 (-20000000000) 20000000000 = true := tx_within.2 hx.b1
      have x5 : s_base_Within (s_counts_rules_stripped p0 (s_counts_rules_net p0 p1)).2.2.1 (-20000000000) 20000000000 = true := tx_within.2 hx.c0
      have x6 : s_base_Within (s_counts_rules_stripped p0 (s_counts_rules_net p0 p1)).2.2.2 (-20000000000) 20000000000 = true := tx_within.2 hx.c1
      have hd : (v_fact p0 p1.2.2.2.2).2 ≠ 0 := by omega
      have z : ((0 : Int) != 0) = false := rfl
      constructor
      · intro p hp
        simp only [pre_law06_CountsReduced, List.mem_cons, List.not_mem_nil, or_false] at hp
        simp only [eN, eS, h0, z, cond_false, hh, cond_true] at hp
        rcases hp with rfl | rfl | rfl | rfl | rfl | rfl | rfl | rfl | rfl | rfl | rfl | rfl
        all_goals first
          | exact fun _ => hl
          | exact fun _ _ => hs
          | exact fun _ _ _ => hs
          | exact fun _ _ _ => hl
          | exact fun _ _ _ _ => hl
          | exact fun _ _ _ _ _ => hs.rules
          | exact fun _ _ _ _ _ _ => hd
          | exact fun _ _ _ _ _ _ _ => hd
          | exact fun _ _ _ _ _ _ _ _ => hd
      · unfold s_law06_CountsReduced
        rw [hf, hb]
        simp only [cond_false, eR, eN, eS, h0, hv0, hh, z, cond_true, w1, w2, x1, x2, x3, x4, x5, x6, Bool.not_true]
        unfold s_counts_rules_reducedCounts
        rw [red_one hs.rules hh hx.a0 hx.a1, red_one hs.rules hh hx.b0 hx.b1, red_one hs.rules hh hx.c0 hx.c1]
        simp
    · have hp' : v_both p0 p1 ≠ 0 := by simpa using hb
      constructor
      · intro p hp
        simp only [pre_law06_CountsReduced, List.mem_cons, List.not_mem_nil, or_false, hb] at hp
        rcases hp with rfl | rfl | rfl | rfl | rfl | rfl | rfl | rfl | rfl | rfl | rfl | rfl
        all_goals first
          | exact fun _ => hl
          | exact fun _ e => nomatch e
      · have eR : s_counts_ReducedOf p0 p1 = (((0, 0), (0, 0), (0, 0)), v_both p0 p1) := by unfold s_counts_ReducedOf; rw [hb]; rfl
        unfold s_law06_CountsReduced
        rw [hf, hb, eR]
        simp
  · constructor
    · intro p hp
      simp only [pre_law06_CountsReduced, List.mem_cons, List.not_mem_nil, or_false, hf] at hp
      rcases hp with rfl | rfl | rfl | rfl | rfl | rfl | rfl | rfl | rfl | rfl | rfl | rfl
      all_goals exact fun e => nomatch e
    · unfold s_law06_CountsReduced
      rw [hf]; rfl

theorem own : ownKnob Try.prog.godebug = none := by kernel_rfl
theorem laidOut : laidOutB Try.prog = true := by kernel_rfl
theorem hfn9 : Try.prog.funcs[9]? = some (fnOf Try.prog 9) := by kernel_rfl
theorem hps9 : (fnOf Try.prog 9).params.size = 2 := by kernel_rfl
theorem lifted_CountsReduced (os : Os) (started : os.Started) (H : Type) (enc : TypeId × Value → H) :
    ReturnsInHanded {} Try.checked os 9 .any (Rows.countsReducedSpec.pre6 enc Try.prog (fnOf Try.prog 9) [] false) (Rows.countsReducedSpec.post enc Try.prog (fnOf Try.prog 9) false true false false) :=
  said_of (C := Try.checked) (ss := P_law06_CountsReduced.map shP) own started (by kernel_rfl) hfn9
    (ChangeSpec.witness6 (enc := enc) (C := Try.checked) false ⟨#[], zeroArgs P_law06_CountsReduced, []⟩ 8 (by kernel_rfl) (by kernel_rfl) (by kernel_rfl) (by kernel_rfl)) rfl
    (fun ds h => by
      rw [hps9] at h
      match ds, h with
      | [_, _], _ => rfl)
    laidOut (by kernel_rfl) (rt := (fnOf Try.prog 9).resultTypes.getD 0 0) (by kernel_rfl) (by kernel_rfl) (by kernel_rfl)
    (law_of ok_law06_CountsReduced fun x hx => ⟨(plain_law06_CountsReduced x.1 x.2 hx).1, congrArg (fun b => V.p (.bool b)) (plain_law06_CountsReduced x.1 x.2 hx).2⟩)
theorem CountsReduced_holds : Rows.CountsReducedSaid :=
  OpenClaim.holds_of_wide 9 (fnOf Try.prog 9) rfl rfl rfl rfl rfl rfl rfl ⟨rfl, rfl, rfl, rfl, rfl⟩ rfl rfl rfl rfl rfl (by kernel_rfl) hfn9 (by kernel_rfl)
    (of_decide_eq_true (by kernel_rfl)) (by unfold Func.isWrapper; first | (rw [if_pos (by decide +kernel)]; kernel_rfl) | (rw [if_neg (by decide +kernel)]; exact ⟨rfl, rfl⟩))
    (fun os started H enc _ => lifted_CountsReduced os started H enc)
end Go.Proofs.Ytonjnpefnbnohaa
