/- GravityGains: the given statement is proved: at every input the law returns true, and the input reads as it did. No condition. -/
import Derived.Test.YtcecdmdnfmgnfaaDoorWalkGravityGains
import Derived.Test.YtcecdmdnfmgnfaaDoorLayB
import Derived.Test.YtcecdmdnfmgnfaaDoorMxUl
import Derived.Test.YtcecdmdnfmgnfaaDoorRows
import Derived.Test.YtcecdmdnfmgnfaaDoorCards
import Derived.Test.YtcecdmdnfmgnfaaDoorTie
import Derived.ProofKit
import Derived.SevenTiedAt
namespace Go.Proofs.YtcecdmdnfmgnfaaDoor
open Go Go.Mx
set_option maxRecDepth 100000
theorem v_scan_all {α ρ : Type} {f : Int → α → Option ρ} {e : ρ} : ∀ (l : List α) (i : Int), (∀ k, (h : k < l.length) → f (i + k) l[k] = none) → v_scan f e i l = e
  | [], _, _ => rfl
  | x :: r, i, h => by
    unfold v_scan
    have h0 := h 0 (by simp)
    simp only [Int.natCast_zero, Int.add_zero, List.getElem_cons_zero] at h0
    rw [h0]
    refine v_scan_all r (i + 1) fun k hk => ?_
    have := h (k + 1) (by simpa using hk)
    rw [List.getElem_cons_succ] at this
    rw [show i + 1 + (k : Int) = i + ((k + 1 : Nat) : Int) by omega]; exact this
theorem v_hok.err {p0 : List (Int × Int)} (h : v_hok p0) : (v_heights p0).2 = 0 := by
  have hl := h.len
  unfold v_heights
  rw [decide_eq_false (show ¬ (p0.length : Int) > 64 by omega), cond_false, v_scan_all]
  intro k hk
  have ha := h.all _ (List.getElem_mem hk)
  have : s_gravity_rangeErr p0[k] 1000000 = 0 := by
    unfold s_gravity_rangeErr s_gravity_isSized
    rw [show IntKind.i64.wrap (0 - 1000000) = -1000000 from rfl, tx_within.2 ha.1, tx_within.2 ha.2.1, decide_eq_true ha.2.2]; rfl
  rw [this]; rfl
/-- Products added up. -/
def v_dot : List Int → List Int → Int
  | w :: ws, x :: xs => w * x + v_dot ws xs
  | _, _ => 0
theorem v_dot_sums : ∀ (ws xs : List Int), ws.length ≤ xs.length → v_dot ws xs = v_sums (fun i => ws.getD i 0 * xs.getD i 0) 0 ws.length
  | [], _, _ => by simp [v_dot, v_sums]
  | w :: ws, [], h => by simp at h
  | w :: ws, x :: xs, h => by
    rw [v_dot, v_dot_sums ws xs (by simpa using h), List.length_cons, v_sums, v_sums_shift]
    rfl
theorem v_lin_pt : ∀ (ws : List Int) (es : List Int), v_lin ws (es.map fun e => (e, e)) = (v_dot ws es, v_dot ws es)
  | [], _ => by simp [v_lin, v_dot]
  | w :: ws, [] => by simp [v_lin, v_dot]
  | w :: ws, e :: es => by
    simp only [List.map_cons, v_lin, v_dot, v_lin_pt ws es]
    rw [Int.min_self, Int.max_self]
theorem v_fil_len (f : List Int) (l : List (Int × Int)) : (v_fil f l).length = (max 0 ((l.length : Int) - ((v_both f).length : Nat) + 1)).toNat := by simp [v_fil, v_windows]
theorem v_fil_get {f : List Int} {l : List (Int × Int)} {j : Nat} (h : j < (v_fil f l).length) : (v_fil f l).getD j (0, 0) = ((v_lin (v_both f) ((l.drop j).take (v_both f).length)).1 / v_fsum f, v_ceil (v_lin (v_both f) ((l.drop j).take (v_both f).length)).2 (v_fsum f)) := by
  rw [v_fil_len] at h
  unfold v_fil v_windows
  rw [List.map_map, gd_map 0 (by simpa using h)]
  rw [show (List.range (max 0 ((l.length : Int) - ((v_both f).length : Nat) + 1)).toNat).getD j 0 = j by rw [List.range_eq_range', gd_range h, Nat.zero_add]]
  rfl

theorem v_sums_comm (F : Nat → Nat → Int) : ∀ (n a b m : Nat), v_sums (fun i => v_sums (fun j => F i j) b m) a n = v_sums (fun j => v_sums (fun i => F i j) a n) b m
  | 0, a, b, m => by
    rw [v_sums_zero (f := fun j => v_sums (fun i => F i j) a 0) m b (fun _ _ _ => rfl)]; rfl
  | n + 1, a, b, m => by
    rw [v_sums, v_sums_comm F n (a + 1) b m, ← v_sums_add]
    rfl
/-- What is opposite on both sides adds up to nothing. -/
theorem v_odd {g : Int → Int} (hg : ∀ x, g (-x) = -g x) (n : Nat) : v_sums (fun j => g ((j : Int) - (n : Int))) 0 (2 * n + 1) = 0 := by
  have h := v_sums_rev (fun j => g ((j : Int) - (n : Int))) (2 * n + 1) 0
  rw [v_sums_congr (f := fun k => g (((0 + (2 * n + 1) - 1 - k : Nat) : Int) - (n : Int))) (g := fun k => -1 * g ((k : Int) - (n : Int))) (2 * n + 1) 0 (fun k _ hk => by rw [show (((0 + (2 * n + 1) - 1 - k : Nat) : Int) - (n : Int)) = -((k : Int) - (n : Int)) by omega, hg]; omega), v_sums_mul] at h
  omega
/-- The same from the other side. -/
theorem v_flip {g : Int → Int} (n : Nat) : v_sums (fun j => g ((j : Int) - (n : Int))) 0 (2 * n + 1) = v_sums (fun j => g (-((j : Int) - (n : Int)))) 0 (2 * n + 1) := by
  rw [v_sums_rev]
  exact v_sums_congr _ _ fun k _ hk => by congr 1; omega
theorem v_cos_add (x y : Int) : v_cos (y + x) + v_cos (y - x) = 2 * (v_cos y * v_cos x) := by
  unfold v_cos
  have h1 := Int.emod_nonneg x (show (4 : Int) ≠ 0 by decide)
  have h2 := Int.emod_lt_of_pos x (show (0 : Int) < 4 by decide)
  have h3 := Int.emod_nonneg y (show (4 : Int) ≠ 0 by decide)
  have h4 := Int.emod_lt_of_pos y (show (0 : Int) < 4 by decide)
  rw [Int.add_emod, Int.sub_emod]
  generalize x % 4 = r at *
  generalize y % 4 = s at *
  have a : r = 0 ∨ r = 1 ∨ r = 2 ∨ r = 3 := by omega
  have b : s = 0 ∨ s = 1 ∨ s = 2 ∨ s = 3 := by omega
  rcases a with rfl | rfl | rfl | rfl <;> rcases b with rfl | rfl | rfl | rfl <;> decide
theorem v_gain_shift {g : List Int} (h1 : 1 ≤ g.length) (a q : Int) : v_sums (fun t => v_cos (((t : Int) - ((g.length : Int) - 1) + a) * q) * v_at g ((t : Int) - ((g.length : Int) - 1))) 0 (2 * g.length - 1) = v_cos (a * q) * v_gain g q := by
  have e : ((g.length : Int) - 1) = ((g.length - 1 : Nat) : Int) := by omega
  have hn : 2 * g.length - 1 = 2 * (g.length - 1) + 1 := by omega
  unfold v_gain
  rw [e, hn]
  have f1 := v_flip (g := fun x => v_cos ((x + a) * q) * v_at g x) (g.length - 1)
  have f2 := v_sums_add (fun j => v_cos (((j : Int) - ((g.length - 1 : Nat) : Int) + a) * q) * v_at g ((j : Int) - ((g.length - 1 : Nat) : Int))) (fun j => v_cos ((-((j : Int) - ((g.length - 1 : Nat) : Int)) + a) * q) * v_at g (-((j : Int) - ((g.length - 1 : Nat) : Int)))) (2 * (g.length - 1) + 1) 0
  rw [v_sums_congr (f := fun j => v_cos (((j : Int) - ((g.length - 1 : Nat) : Int) + a) * q) * v_at g ((j : Int) - ((g.length - 1 : Nat) : Int)) + v_cos ((-((j : Int) - ((g.length - 1 : Nat) : Int)) + a) * q) * v_at g (-((j : Int) - ((g.length - 1 : Nat) : Int)))) (g := fun j => (2 * v_cos (a * q)) * (v_cos (((j : Int) - ((g.length - 1 : Nat) : Int)) * q) * v_at g ((j : Int) - ((g.length - 1 : Nat) : Int)))) _ _ (fun j _ _ => by
    rw [v_at_neg]
    generalize (j : Int) - ((g.length - 1 : Nat) : Int) = x
    have := v_cos_add (x * q) (a * q)
    rw [show a * q + x * q = (x + a) * q by rw [Int.add_mul, Int.add_comm], show a * q - x * q = (-x + a) * q by rw [Int.add_mul, Int.neg_mul]; omega] at this
    rw [← Int.add_mul, this]; grind), v_sums_mul] at f2
  have f3 : v_sums (fun j => v_cos ((-((j : Int) - ((g.length - 1 : Nat) : Int)) + a) * q) * v_at g (-((j : Int) - ((g.length - 1 : Nat) : Int)))) 0 (2 * (g.length - 1) + 1) = v_sums (fun j => v_cos (((j : Int) - ((g.length - 1 : Nat) : Int) + a) * q) * v_at g ((j : Int) - ((g.length - 1 : Nat) : Int))) 0 (2 * (g.length - 1) + 1) := f1.symm
  rw [f3] at f2
  rw [Int.mul_assoc] at f2
  omega
/-- The numbers of two filters composed, on both sides. -/
def v_C (f g : List Int) (k : Int) : Int := v_sums (fun i => v_at f ((i : Int) - ((f.length : Int) - 1)) * v_at g (k - ((i : Int) - ((f.length : Int) - 1)))) 0 (2 * f.length - 1)
theorem v_C_neg {f g : List Int} (h1 : 1 ≤ f.length) (k : Int) : v_C f g (-k) = v_C f g k := by
  unfold v_C
  rw [show ((f.length : Int) - 1) = ((f.length - 1 : Nat) : Int) by omega, show 2 * f.length - 1 = 2 * (f.length - 1) + 1 by omega]
  refine (v_flip (g := fun x => v_at f x * v_at g (-k - x)) (f.length - 1)).trans ?_
  refine v_sums_congr _ _ fun j _ _ => ?_
  rw [v_at_neg, show -k - -((j : Int) - ((f.length - 1 : Nat) : Int)) = -(k - ((j : Int) - ((f.length - 1 : Nat) : Int))) by omega, v_at_neg]
theorem v_conv_at {f g : List Int} (h0 : 1 ≤ f.length) (h1 : 1 ≤ g.length) (k : Int) : v_at (v_conv f g) k = v_C f g k := by
  have hl := v_conv_len f g
  by_cases c : k.natAbs < f.length + g.length - 1
  · have e : v_at (v_conv f g) k = v_C f g (k.natAbs : Nat) := v_conv_get c
    rw [e]
    rcases Int.le_total 0 k with d | d
    · rw [show ((k.natAbs : Nat) : Int) = k by omega]
    · rw [show ((k.natAbs : Nat) : Int) = -k by omega, v_C_neg h0]
  · rw [v_at_out (by omega)]
    unfold v_C
    rw [v_sums_zero]
    intro i _ hi
    rw [v_at_out (f := g) (by omega), Int.mul_zero]
theorem v_gain_conv {f g : List Int} (h0 : 1 ≤ f.length) (h1 : 1 ≤ g.length) (q : Int) : v_gain (v_conv f g) q = v_gain f q * v_gain g q := by
  have hl := v_conv_len f g
  have step : v_gain (v_conv f g) q = v_sums (fun i => v_sums (fun j => v_at f ((i : Int) - ((f.length : Int) - 1)) * (v_cos (((j : Int) - (((f.length + g.length - 1 : Nat) : Int) - 1)) * q) * v_at g (((j : Int) - (((f.length + g.length - 1 : Nat) : Int) - 1)) - ((i : Int) - ((f.length : Int) - 1))))) 0 (2 * (f.length + g.length - 1) - 1)) 0 (2 * f.length - 1) := by
    unfold v_gain
    rw [hl, v_sums_comm]
    refine v_sums_congr _ _ fun j _ _ => ?_
    rw [v_conv_at h0 h1]
    unfold v_C
    rw [← v_sums_mul]
    exact v_sums_congr _ _ fun i _ _ => by grind
  rw [step]
  have inner : ∀ i, i < 2 * f.length - 1 → v_sums (fun j => v_at f ((i : Int) - ((f.length : Int) - 1)) * (v_cos (((j : Int) - (((f.length + g.length - 1 : Nat) : Int) - 1)) * q) * v_at g (((j : Int) - (((f.length + g.length - 1 : Nat) : Int) - 1)) - ((i : Int) - ((f.length : Int) - 1))))) 0 (2 * (f.length + g.length - 1) - 1) = v_gain g q * (v_cos (((i : Int) - ((f.length : Int) - 1)) * q) * v_at f ((i : Int) - ((f.length : Int) - 1))) := by
    intro i hi
    rw [v_sums_mul, show 2 * (f.length + g.length - 1) - 1 = i + ((2 * g.length - 1) + (2 * f.length - 2 - i)) by omega, v_sums_app, v_sums_app, v_sums_zero i 0 (fun j _ hj => by rw [v_at_out (f := g) (by omega), Int.mul_zero]), v_sums_zero (2 * f.length - 2 - i) _ (fun j hj _ => by rw [v_at_out (f := g) (by omega), Int.mul_zero]), v_sums_shift]
    rw [v_sums_congr (f := fun k => v_cos ((((k + i : Nat) : Int) - (((f.length + g.length - 1 : Nat) : Int) - 1)) * q) * v_at g ((((k + i : Nat) : Int) - (((f.length + g.length - 1 : Nat) : Int) - 1)) - ((i : Int) - ((f.length : Int) - 1)))) (g := fun t => v_cos (((t : Int) - ((g.length : Int) - 1) + ((i : Int) - ((f.length : Int) - 1))) * q) * v_at g ((t : Int) - ((g.length : Int) - 1))) _ _ (fun t _ _ => by
      rw [show (((t + i : Nat) : Int) - (((f.length + g.length - 1 : Nat) : Int) - 1)) = (t : Int) - ((g.length : Int) - 1) + ((i : Int) - ((f.length : Int) - 1)) by omega, show (t : Int) - ((g.length : Int) - 1) + ((i : Int) - ((f.length : Int) - 1)) - ((i : Int) - ((f.length : Int) - 1)) = (t : Int) - ((g.length : Int) - 1) by omega]), v_gain_shift h1]
    rw [Int.zero_add, Int.add_zero]; grind
  rw [v_sums_congr _ _ (fun i _ hi => inner i (by omega)), v_sums_mul, Int.mul_comm]; rfl
theorem v_conv_comm {f g : List Int} (h0 : 1 ≤ f.length) (h1 : 1 ≤ g.length) : v_conv f g = v_conv g f := by
  refine gd_ext 0 (by rw [v_conv_len, v_conv_len]; omega) fun k hk => ?_
  rw [v_conv_len] at hk
  have wide : ∀ (p0 p1 : List Int), 1 ≤ p0.length → p0.length + p1.length = f.length + g.length → v_sums (fun j => v_at p0 ((j : Int) - ((f.length + g.length : Nat) : Int)) * v_at p1 ((k : Int) - ((j : Int) - ((f.length + g.length : Nat) : Int)))) 0 (2 * (f.length + g.length) + 1) = (v_conv p0 p1).getD k 0 := by
    intro p0 p1 a1 hs
    obtain ⟨c, hc⟩ : ∃ c, c = p1.length + 1 := ⟨_, rfl⟩
    rw [v_conv_get (by omega), show 2 * (f.length + g.length) + 1 = c + ((2 * p0.length - 1) + c) by omega, v_sums_app, v_sums_app, v_sums_zero c 0 (fun j h1 h2 => by rw [v_at_out (f := p0) (by omega), Int.zero_mul]), v_sums_zero c (0 + c + (2 * p0.length - 1)) (fun j h1 h2 => by rw [v_at_out (f := p0) (by omega), Int.zero_mul]), v_sums_shift, Int.zero_add, Int.add_zero]
    refine v_sums_congr _ _ fun j _ _ => ?_
    congr 2 <;> omega
  rw [← wide f g h0 rfl, ← wide g f h1 (by omega)]
  generalize hN : f.length + g.length = N at *
  rw [v_flip (g := fun x => v_at g x * v_at f ((k : Int) - x)) N]
  rw [show 2 * N + 1 = k + (2 * N + 1 - k) by omega, v_sums_app, v_sums_zero k 0 (fun j _ hj => by rw [v_at_out (f := g) (by omega), Int.mul_zero]), v_sums_shift, show k + (2 * N + 1 - k) = (2 * N + 1 - k) + k by omega, v_sums_app _ (2 * N + 1 - k) k 0, v_sums_zero k (0 + (2 * N + 1 - k)) (fun j hj _ => by rw [v_at_out (f := f) (by omega), Int.mul_zero]), Int.zero_add, Int.add_zero]
  refine v_sums_congr _ _ fun t _ _ => ?_
  rw [v_at_neg, Int.mul_comm]
  congr 1
  · rw [← v_at_neg]; congr 1; omega
  · congr 1; omega

theorem tx_filerr0 {f : List Int} (h : v_fok f) : v_filerr f = 0 := by
  have h1 := h.one
  have h9 := h.nine
  have : v_any_slices_ContainsFuncint_int__gravity_CheckFilter_1 f = false := by
    refine List.any_eq_false.2 fun x hx => ?_
    have := tx_sized.2 (h.all x hx)
    simp [s_gravity_CheckFilter_1, this]
  unfold v_filerr v_fw0
  rw [decide_eq_true (show (f.length : Int) > 0 by omega), decide_eq_true (show (f.length : Int) ≤ 9 by omega), this, decide_eq_true (show v_fsum f > 0 from h.pos)]; rfl
/-- What the law is about. -/
structure v_gs (p0 p1 : List Int) (p2 : Int × (Int × Int)) : Prop where
  f : v_fok p0
  g : v_fok p1
  n : 0 ≤ p2.2.2 ∧ p2.2.2 ≤ 40
  b : -1000 ≤ p2.1 ∧ p2.1 ≤ 1000
  s : -1000 ≤ p2.2.1 ∧ p2.2.1 ≤ 1000
/-- A number of the even list. -/
def v_ev (p2 : Int × (Int × Int)) (k : Nat) : Int := p2.1 + (k : Int) * p2.2.1
def v_EV (p2 : Int × (Int × Int)) (n : Nat) : List (Int × Int) := (List.range' 0 n).map fun k => (v_ev p2 k, v_ev p2 k)
theorem v_EV_len {p2 : Int × (Int × Int)} {n : Nat} : (v_EV p2 n).length = n := by simp [v_EV]
theorem v_EV_get {p2 : Int × (Int × Int)} {n k : Nat} (h : k < n) : (v_EV p2 n).getD k (0, 0) = (v_ev p2 k, v_ev p2 k) := by unfold v_EV; rw [gd_map_range h, Nat.zero_add]
theorem v_EV_map {p2 : Int × (Int × Int)} {n : Nat} : v_EV p2 n = ((List.range' 0 n).map (v_ev p2)).map fun e => (e, e) := by unfold v_EV; rw [List.map_map]; rfl
/-- Composed filters. -/
theorem v_com {p0 p1 : List Int} (h0 : v_fok p0) (h1 : v_fok p1) : (t_gravity_Composed p0 p1 = ([], 8) ∧ t_gravity_Composed p1 p0 = ([], 8)) ∨ (t_gravity_Composed p0 p1 = (v_conv p0 p1, 0) ∧ t_gravity_Composed p1 p0 = (v_conv p0 p1, 0) ∧ v_fok (v_conv p0 p1)) := by
  have a1 := h0.one
  have b1 := h1.one
  have hc := v_conv_comm (f := p1) (g := p0) b1 a1
  have hl := v_conv_len p0 p1
  unfold t_gravity_Composed v_cerr
  rw [hc, tx_filerr0 h0, tx_filerr0 h1]
  rcases Int.lt_or_le 9 ((p0.length : Int) + p1.length - 1) with c | c
  · rw [decide_eq_false (show ¬ (p0.length : Int) + p1.length - 1 ≤ 9 by omega), decide_eq_false (show ¬ (p1.length : Int) + p0.length - 1 ≤ 9 by omega)]
    exact .inl ⟨rfl, rfl⟩
  · rw [decide_eq_true c, decide_eq_true (show (p1.length : Int) + p0.length - 1 ≤ 9 by omega)]
    cases hv : v_any_slices_ContainsFuncint_int__gravity_Composed_1 (v_conv p0 p1)
    · refine .inr ⟨rfl, rfl, ⟨by omega, by omega, fun x hx => ?_⟩, ?_⟩
      · have := List.any_eq_false.1 hv x hx
        exact tx_sized.1 (by simpa [s_gravity_Composed_1] using this)
      · rw [← v_gain0, v_gain_conv a1 b1, v_gain0, v_gain0]
        exact Int.mul_pos h0.pos h1.pos
    · exact .inl ⟨rfl, rfl⟩
theorem v_gain_in {f : List Int} (h : v_fw f) (q : Int) : -1700000 ≤ v_gain f q ∧ v_gain f q ≤ 1700000 := by
  have h9 := h.nine
  have h1 := h.one
  have := v_sums_in (f := fun j => v_cos (((j : Int) - ((f.length : Int) - 1)) * q) * v_at f ((j : Int) - ((f.length : Int) - 1))) (m := 100000) (2 * f.length - 1) 0 (fun k _ _ => v_cos_at h _ _)
  unfold v_gain; omega
theorem v_gn {f : List Int} (h : v_fok f) {q : Int} (hq : 0 ≤ q ∧ q ≤ 3) : t_gravity_GainAt f q = (v_gain f q, 0) := by
  unfold t_gravity_GainAt v_gerr
  rw [tx_filerr0 h, tx_within.2 hq]; rfl
theorem v_cos3 (x : Int) : v_cos (x * 3) = v_cos (x * 1) := by
  rw [← v_cos_neg (x * 1)]
  unfold v_cos
  congr 2; omega
theorem v_gain_back {f : List Int} {q : Int} (hq : 0 ≤ q ∧ q ≤ 3) : v_gain f ((4 - q).tmod 4) = v_gain f q := by
  have : q = 0 ∨ q = 1 ∨ q = 2 ∨ q = 3 := by omega
  unfold v_gain
  rcases this with rfl | rfl | rfl | rfl
  · rfl
  · exact v_sums_congr _ _ fun j _ _ => by rw [show Int.tmod (4 - 1) 4 = 3 from rfl, v_cos3]
  · rfl
  · exact v_sums_congr _ _ fun j _ _ => by rw [show Int.tmod (4 - 3) 4 = 1 from rfl, v_cos3]
section
variable {p0 p1 : List Int} {p2 : Int × (Int × Int)} (W : v_gs p0 p1 p2) (y1 : Int × List (Int × Int)) (y4 : Int)
include W
theorem w_0 (q : Nat) (hq : q < 4) : OkL (st_law05_GravityGains_0 p0 p1 p2 y1 y4 (q : Int)) (sp_law05_GravityGains_0 p0 p1 p2 y1 y4 (q : Int)) (0 - ((p0.length : Int) - 1), 0) ∧ lpv (Sum.inr (Sum.inr (Sum.inr false))) (st_law05_GravityGains_0 p0 p1 p2 y1 y4 (q : Int)) (0 - ((p0.length : Int) - 1), 0) = Sum.inl ((q + 1 : Nat) : Int) := by
  have h1 := W.f.one
  have h9 := W.f.nine
  have b1 := W.g.one
  have b9 := W.g.nine
  have hq3 : 0 ≤ (q : Int) ∧ (q : Int) ≤ 3 := by omega
  have hm : IntKind.i64.wrap ((p0.length : Int) - 1) = (p0.length : Int) - 1 := wrap_id (by omega) (by omega)
  have g0 := v_gn W.f hq3
  have g1 := v_gn W.g hq3
  have i0 := v_gain_in W.f.tov_fw (q : Int)
  have i1 := v_gain_in W.g.tov_fw (q : Int)
  have hl := v_conv_len p0 p1
  refine for_is (fun i t => (i - ((p0.length : Int) - 1), t)) 0 (2 * p0.length - 1) (fun i t => t = v_sums (fun j => v_cos (((j : Int) - ((p0.length : Int) - 1)) * (q : Int)) * v_at p0 ((j : Int) - ((p0.length : Int) - 1))) 0 i) (fun _ _ => Sum.inl ((q + 1 : Nat) : Int)) (by omega) (by omega) ?_ ?_ _ rfl
  · intro t ht
    have ht' : t = v_gain p0 q := ht
    subst ht'
    have hd : decide (((2 * p0.length - 1 : Nat) : Int) - ((p0.length : Int) - 1) ≤ (p0.length : Int) - 1) = false := decide_eq_false (by omega)
    have no : ∀ {p : Prop}, decide (((2 * p0.length - 1 : Nat) : Int) - ((p0.length : Int) - 1) ≤ (p0.length : Int) - 1) = true → p := fun h => by rw [hd] at h; cases h
    rcases v_com W.f W.g with ⟨c1, _⟩ | ⟨c1, _, c3⟩
    · refine ⟨?_, ?_⟩
      · simp only [sp_law05_GravityGains_0, List.forall_mem_cons, hm, s_ref05_CopyFilter, c1]
        exact ⟨no, no, no, no, fun _ _ _ => by simp, fun _ _ _ => lenOk_m (by simp), by simp⟩
      · simp only [st_law05_GravityGains_0, hm, hd, cond_false, s_ref05_CopyFilter, c1, g0, bne_self_eq_false, wrap_nat (show (q : Int) ≤ 9223372036854775806 by omega)]
        rfl
    · have g2 := v_gn c3 hq3
      rw [v_gain_conv h1 b1] at g2
      have hmul := mul_abs i0.1 i0.2 i1.1 i1.2
      have l9 := c3.nine
      refine ⟨?_, ?_⟩
      · simp only [sp_law05_GravityGains_0, List.forall_mem_cons, hm, s_ref05_CopyFilter, c1]
        exact ⟨no, no, no, no, fun _ _ _ => by omega, fun _ _ _ => lenOk_m (by omega), by simp⟩
      · simp only [st_law05_GravityGains_0, hm, hd, cond_false, s_ref05_CopyFilter, c1, g0, g1, g2, bne_self_eq_false, beq_self_eq_true, cond_true, wrap_nat (show (q : Int) ≤ 9223372036854775806 by omega)]
        rw [wrap_id (by omega) (by omega), bne_self_eq_false]; rfl
  · intro i t _ hi ht
    have hd : decide ((i : Int) - ((p0.length : Int) - 1) ≤ (p0.length : Int) - 1) = true := decide_eq_true (by omega)
    have no : ∀ {p : Prop}, decide ((i : Int) - ((p0.length : Int) - 1) ≤ (p0.length : Int) - 1) = false → p := fun h => by rw [hd] at h; cases h
    have hs : s_base_Size ((i : Int) - ((p0.length : Int) - 1)) = (((i : Int) - ((p0.length : Int) - 1)).natAbs : Nat) := tx_size (by unfold v_fit; omega)
    have hp : -100 ≤ ((i : Int) - ((p0.length : Int) - 1)) * (q : Int) ∧ ((i : Int) - ((p0.length : Int) - 1)) * (q : Int) ≤ 100 := by
      have : (q : Int) = 0 ∨ (q : Int) = 1 ∨ (q : Int) = 2 ∨ (q : Int) = 3 := by omega
      rcases this with e | e | e | e <;> rw [e] <;> omega
    have hw : IntKind.i64.wrap (((i : Int) - ((p0.length : Int) - 1)) * (q : Int)) = ((i : Int) - ((p0.length : Int) - 1)) * (q : Int) := wrap_id (by omega) (by omega)
    have m1 := Int.emod_nonneg (((i : Int) - ((p0.length : Int) - 1)) * (q : Int)) (show (4 : Int) ≠ 0 by decide)
    have m2 := Int.emod_lt_of_pos (((i : Int) - ((p0.length : Int) - 1)) * (q : Int)) (show (0 : Int) < 4 by decide)
    refine ⟨?_, .inl ⟨_, ?_, rfl, rfl⟩⟩
    · simp only [sp_law05_GravityGains_0, List.forall_mem_cons, hm, hs, hw]
      exact ⟨fun _ => by omega, fun _ => by omega, fun _ => m1, fun _ => by simp only [List.length_cons, List.length_nil]; omega, no, no, by simp⟩
    · have hb := v_sums_in (f := fun j => v_cos (((j : Int) - ((p0.length : Int) - 1)) * (q : Int)) * v_at p0 ((j : Int) - ((p0.length : Int) - 1))) (m := 100000) i 0 (fun k _ _ => v_cos_at W.f.tov_fw _ _)
      have ha := v_cos_at W.f.tov_fw (((i : Int) - ((p0.length : Int) - 1)) * (q : Int)) ((i : Int) - ((p0.length : Int) - 1))
      have hat : p0.getD ((i : Int) - ((p0.length : Int) - 1)).natAbs 0 = v_at p0 ((i : Int) - ((p0.length : Int) - 1)) := rfl
      simp only [st_law05_GravityGains_0, hm, hs, hw, hd, cond_true, Int.toNat_natCast, hat, ht]
      rw [show (List.getD [1, 0, -1, 0] (((i : Int) - ((p0.length : Int) - 1)) * (q : Int) % 4).toNat 0) = v_cos (((i : Int) - ((p0.length : Int) - 1)) * (q : Int)) from rfl, Int.mul_comm (v_at p0 _), wrap_id (n := v_cos (((i : Int) - ((p0.length : Int) - 1)) * (q : Int)) * v_at p0 ((i : Int) - ((p0.length : Int) - 1))) (by omega) (by omega), v_sums_last, Nat.zero_add, wrap_id (by omega) (by omega), wrap_id (by omega) (by omega), show (i : Int) - ((p0.length : Int) - 1) + 1 = ((i + 1 : Nat) : Int) - ((p0.length : Int) - 1) by omega]
theorem w_1 : OkL (st_law05_GravityGains_1 p0 p1 p2 y1 y4) (sp_law05_GravityGains_1 p0 p1 p2 y1 y4) 0 ∧ lpv (Sum.inr (Sum.inr false)) (st_law05_GravityGains_1 p0 p1 p2 y1 y4) 0 = Sum.inr (Sum.inr true) := by
  have h1 := W.f.one
  have h9 := W.f.nine
  have b9 := W.g.nine
  have hm : IntKind.i64.wrap ((p0.length : Int) - 1) = (p0.length : Int) - 1 := wrap_id (by omega) (by omega)
  have hm0 : IntKind.i64.wrap (0 - ((p0.length : Int) - 1)) = 0 - ((p0.length : Int) - 1) := wrap_id (by omega) (by omega)
  have hs : s_gravity_SumOf p0 = (v_fsum p0, 0) := by unfold s_gravity_SumOf; rw [tx_filerr0 W.f]; rfl
  refine for_is (fun i (_ : Unit) => i) 0 4 (fun _ _ => True) (fun _ _ => Sum.inr (Sum.inr true)) (by omega) (by omega) ?_ ?_ () trivial
  · intro t _
    have no : ∀ {p : Prop}, decide (((4 : Nat) : Int) < 4) = true → p := fun h => by cases h
    exact ⟨by simp only [sp_law05_GravityGains_1, List.forall_mem_cons]; exact ⟨no, no, no, no, no, no, by simp⟩, rfl⟩
  · intro q t _ hq _
    have hq3 : 0 ≤ (q : Int) ∧ (q : Int) ≤ 3 := by omega
    have hd : decide ((q : Int) < 4) = true := decide_eq_true (by omega)
    have hw : IntKind.i64.wrap (4 - (q : Int)) = 4 - (q : Int) := wrap_id (by omega) (by omega)
    have hb3 : 0 ≤ (4 - (q : Int)).tmod 4 ∧ (4 - (q : Int)).tmod 4 ≤ 3 := by
      rw [Int.tmod_eq_emod_of_nonneg (by omega)]; omega
    have g0 := v_gn W.f hq3
    have g1 := v_gn W.g hq3
    have g2 := v_gn W.f hb3
    rw [v_gain_back hq3] at g2
    have i0 := v_gain_in W.f.tov_fw (q : Int)
    have i1 := v_gain_in W.g.tov_fw (q : Int)
    have w1 : s_base_Within (v_gain p0 q) (-2000000) 2000000 = true := tx_within.2 ⟨by omega, by omega⟩
    have w2 : s_base_Within (v_gain p1 q) (-2000000) 2000000 = true := tx_within.2 ⟨by omega, by omega⟩
    obtain ⟨l1, l2⟩ := w_0 W y1 y4 q hq
    have hz : cond ((q : Int) == 0) (v_gain p0 q != v_fsum p0) false = false := by
      by_cases e : q = 0
      · subst e; rw [show ((0 : Nat) : Int) = 0 from rfl, v_gain0, bne_self_eq_false]; rfl
      · rw [show ((q : Int) == 0) = false by simp; omega]; rfl
    refine ⟨?_, .inl ⟨(), ?_, trivial, rfl⟩⟩
    · simp only [sp_law05_GravityGains_1, List.forall_mem_cons, s_ref05_CopyFilter, hs, hw, g0, g1, g2, hm, hm0]
      exact ⟨fun _ => by omega, fun _ => lenOk_m (by omega), fun _ => by omega, fun _ => lenOk_m (by omega), fun _ _ => by simp, fun _ _ => l1, by simp⟩
    · simp only [st_law05_GravityGains_1, hd, cond_true, s_ref05_CopyFilter, hs, hw, g0, g1, g2, bne_self_eq_false, cond_false, hz, w1, w2, Bool.not_true, hm, hm0]
      exact l2
omit W in
theorem v_even_dot {f : List Int} (h1 : 1 ≤ f.length) {c j : Nat} (hj : j + (2 * f.length - 1) ≤ c) : v_dot (v_both f) ((((List.range' 0 c).map (v_ev p2)).drop j).take (v_both f).length) = v_ev p2 (j + (f.length - 1)) * v_fsum f := by
  have hb := v_both_len h1
  rw [v_dot_sums _ _ (by rw [List.length_take, List.length_drop, List.length_map, List.length_range']; omega), hb]
  rw [v_sums_congr (g := fun i => v_ev p2 (j + (f.length - 1)) * v_at f ((i : Int) - ((f.length : Int) - 1)) + p2.2.1 * (v_at f ((i : Int) - ((f.length : Int) - 1)) * ((i : Int) - ((f.length : Int) - 1)))) (2 * f.length - 1) 0 (fun i _ hi => by
    rw [v_both_at (by omega), gd_take (by omega), gd_drop, gd_map_range (by omega), Nat.zero_add]
    unfold v_ev
    rw [show ((j + i : Nat) : Int) = ((j + (f.length - 1) : Nat) : Int) + ((i : Int) - ((f.length : Int) - 1)) by omega]
    generalize ((i : Int) - ((f.length : Int) - 1)) = x
    generalize ((j + (f.length - 1) : Nat) : Int) = z
    generalize v_at f x = a
    grind), v_sums_add, v_sums_mul, v_sums_mul]
  have ho : v_sums (fun i => v_at f ((i : Int) - ((f.length : Int) - 1)) * ((i : Int) - ((f.length : Int) - 1))) 0 (2 * f.length - 1) = 0 := by
    have := v_odd (g := fun x => v_at f x * x) (fun x => by rw [v_at_neg, Int.mul_neg]) (f.length - 1)
    rw [show 2 * (f.length - 1) + 1 = 2 * f.length - 1 by omega, show ((f.length - 1 : Nat) : Int) = (f.length : Int) - 1 by omega] at this
    exact this
  rw [ho, Int.mul_zero, Int.add_zero]; rfl
theorem w_hok : v_hok (v_EV p2 p2.2.2.toNat) := by
  have hn := W.n
  refine ⟨by rw [v_EV_len]; omega, fun x hx => ?_⟩
  unfold v_EV at hx
  obtain ⟨k, hk, rfl⟩ := List.mem_map.1 hx
  rw [List.mem_range'_1] at hk
  have := mul_abs (show -40 ≤ (k : Int) by omega) (show (k : Int) ≤ 40 by omega) W.s.1 W.s.2
  have := W.b
  unfold v_ev; simp only; omega
theorem w_fil : t_gravity_Filtered p0 (v_EV p2 p2.2.2.toNat) = (v_fil p0 (v_EV p2 p2.2.2.toNat), 0) := by
  have e1 : v_flerr p0 (v_EV p2 p2.2.2.toNat) = 0 := by
    unfold v_flerr
    rw [tx_filerr0 W.f, show s_gravity_rangesErr (v_EV p2 p2.2.2.toNat) = 0 from (w_hok W).err]; rfl
  unfold t_gravity_Filtered
  rw [e1]; rfl
theorem w_get {j : Nat} (hj : j < (v_fil p0 (v_EV p2 p2.2.2.toNat)).length) : (v_fil p0 (v_EV p2 p2.2.2.toNat)).getD j (0, 0) = (v_ev p2 (j + (p0.length - 1)), v_ev p2 (j + (p0.length - 1))) ∧ j + (2 * p0.length - 1) ≤ p2.2.2.toNat := by
  have h1 := W.f.one
  have hb := v_both_len h1
  have hp := W.f.pos
  have hj' := hj
  rw [v_fil_len, v_EV_len] at hj'
  have hle : j + (2 * p0.length - 1) ≤ p2.2.2.toNat := by omega
  refine ⟨?_, hle⟩
  rw [v_fil_get hj, v_EV_map, ← List.map_drop, ← List.map_take, v_lin_pt, v_even_dot h1 hle]
  unfold v_ceil
  rw [Int.mul_ediv_cancel _ (by omega), ← Int.neg_mul, Int.mul_ediv_cancel _ (by omega), Int.neg_neg]
theorem w_2 (c : Int) : OkL (st_law05_GravityGains_2 p0 p1 p2 (c, v_EV p2 p2.2.2.toNat)) (sp_law05_GravityGains_2 p0 p1 p2 (c, v_EV p2 p2.2.2.toNat)) 0 ∧ lpv (Sum.inr false) (st_law05_GravityGains_2 p0 p1 p2 (c, v_EV p2 p2.2.2.toNat)) 0 = Sum.inr true := by
  have h1 := W.f.one
  have h9 := W.f.nine
  have b9 := W.g.nine
  have hn := W.n
  have hm : IntKind.i64.wrap ((p0.length : Int) - 1) = (p0.length : Int) - 1 := wrap_id (by omega) (by omega)
  have hf := w_fil W
  have hl := v_conv_len p0 p1
  have hfl := v_fil_len p0 (v_EV p2 p2.2.2.toNat)
  rw [v_EV_len] at hfl
  refine for_is (fun i (_ : Unit) => i) 0 (v_fil p0 (v_EV p2 p2.2.2.toNat)).length (fun _ _ => True) (fun _ _ => Sum.inr true) (by omega) (by omega) ?_ ?_ () trivial
  · intro t _
    have hd : decide (((v_fil p0 (v_EV p2 p2.2.2.toNat)).length : Int) < ((v_fil p0 (v_EV p2 p2.2.2.toNat)).length : Nat)) = false := decide_eq_false (by omega)
    have no : ∀ {p : Prop}, decide (((v_fil p0 (v_EV p2 p2.2.2.toNat)).length : Int) < ((v_fil p0 (v_EV p2 p2.2.2.toNat)).length : Nat)) = true → p := fun h => by rw [hd] at h; cases h
    obtain ⟨l1, l2⟩ := w_1 W (c, v_EV p2 p2.2.2.toNat) ((v_fil p0 (v_EV p2 p2.2.2.toNat)).length : Int)
    rcases v_com W.f W.g with ⟨c1, c2⟩ | ⟨c1, c2, c3⟩
    · refine ⟨?_, ?_⟩
      · simp only [sp_law05_GravityGains_2, List.forall_mem_cons, s_ref05_CopyFilter, hf, c1, c2]
        exact ⟨no, no, no, no, fun _ => by omega, fun _ => by omega, fun _ => by omega, fun _ => by omega, fun _ _ => lenOk_m (by simp), fun _ _ => by simp, fun _ _ => by simp, fun _ _ => by omega, fun _ _ => lenOk_m (by omega), fun _ _ _ => W.f.tov_fw, fun _ _ => l1, by simp⟩
      · simp only [st_law05_GravityGains_2, s_ref05_CopyFilter, hf, hd, cond_false, c1, c2]
        exact l2
    · have l9 := c3.nine
      refine ⟨?_, ?_⟩
      · simp only [sp_law05_GravityGains_2, List.forall_mem_cons, s_ref05_CopyFilter, hf, c1, c2]
        exact ⟨no, no, no, no, fun _ => by omega, fun _ => by omega, fun _ => by omega, fun _ => by omega, fun _ _ => lenOk_m (by omega), fun _ _ => by simp, fun _ _ => by simp, fun _ _ => by omega, fun _ _ => lenOk_m (by omega), fun _ _ _ => W.f.tov_fw, fun _ _ => l1, by simp⟩
      · simp only [st_law05_GravityGains_2, s_ref05_CopyFilter, hf, hd, cond_false, c1, c2, tx_filerr0 c3, decide_true]
        exact l2
  · intro j t _ hj _
    obtain ⟨q1, q2⟩ := w_get W hj
    have hd : decide ((j : Int) < ((v_fil p0 (v_EV p2 p2.2.2.toNat)).length : Nat)) = true := decide_eq_true (by omega)
    have no : ∀ {p : Prop}, decide ((j : Int) < ((v_fil p0 (v_EV p2 p2.2.2.toNat)).length : Nat)) = false → p := fun h => by rw [hd] at h; cases h
    have hw : IntKind.i64.wrap ((j : Int) + ((p0.length : Int) - 1)) = ((j + (p0.length - 1) : Nat) : Int) := by rw [wrap_id (by omega) (by omega)]; omega
    refine ⟨?_, .inl ⟨(), ?_, trivial, rfl⟩⟩
    · simp only [sp_law05_GravityGains_2, List.forall_mem_cons, s_ref05_CopyFilter, hf, hm, hw, v_EV_len]
      exact ⟨fun _ => by omega, fun _ => by omega, fun _ => by omega, fun _ => by omega, no, no, no, no, no, no, no, no, no, no, no, by simp⟩
    · simp only [st_law05_GravityGains_2, s_ref05_CopyFilter, hf, hd, cond_true, hm, hw, Int.toNat_natCast, q1, v_EV_get (show j + (p0.length - 1) < p2.2.2.toNat by omega), beq_self_eq_true, Bool.and_self, Bool.not_true, cond_false, wrap_nat (show (j : Int) ≤ 9223372036854775806 by omega)]
theorem w_3 : OkL (st_law05_GravityGains_3 p0 p1 p2) (sp_law05_GravityGains_3 p0 p1 p2) (0, []) ∧ lpv false (st_law05_GravityGains_3 p0 p1 p2) (0, []) = true := by
  have h1 := W.f.one
  have h9 := W.f.nine
  have hn := W.n
  have hb := v_both_len h1
  have hm : IntKind.i64.wrap ((p0.length : Int) - 1) = (p0.length : Int) - 1 := wrap_id (by omega) (by omega)
  have hm2 : IntKind.i64.wrap (2 * ((p0.length : Int) - 1)) = 2 * ((p0.length : Int) - 1) := wrap_id (by omega) (by omega)
  have hm3 : IntKind.i64.wrap (p2.2.2 - 2 * ((p0.length : Int) - 1)) = p2.2.2 - 2 * ((p0.length : Int) - 1) := wrap_id (by omega) (by omega)
  have hf := w_fil W
  have hfl := v_fil_len p0 (v_EV p2 p2.2.2.toNat)
  rw [v_EV_len] at hfl
  have hc : ((p2.2.2.toNat : Nat) : Int) = p2.2.2 := by omega
  refine for_is (fun i t => (i, t)) 0 p2.2.2.toNat (fun j t => t = v_EV p2 j) (fun _ _ => true) (by omega) (by omega) ?_ ?_ _ rfl
  · rintro t rfl
    have hd : decide (((p2.2.2.toNat : Nat) : Int) < p2.2.2) = false := decide_eq_false (by omega)
    have no : ∀ {p : Prop}, decide (((p2.2.2.toNat : Nat) : Int) < p2.2.2) = true → p := fun h => by rw [hd] at h; cases h
    obtain ⟨l1, l2⟩ := w_2 W ((p2.2.2.toNat : Nat) : Int)
    refine ⟨?_, ?_⟩
    · simp only [sp_law05_GravityGains_3, List.forall_mem_cons, s_ref05_CopyFilter]
      exact ⟨no, fun _ => by omega, fun _ => by rw [v_EV_len]; omega, fun _ => lenOk_m (by omega), fun _ _ => l1, by simp⟩
    · simp only [st_law05_GravityGains_3, s_ref05_CopyFilter, hd, cond_false, hf, hm, hm2, hm3]
      rw [show (((v_fil p0 (v_EV p2 p2.2.2.toNat)).length : Nat) : Int) = max 0 (p2.2.2 - 2 * ((p0.length : Int) - 1)) by omega]
      simp only [bne_self_eq_false, cond_false]
      exact l2
  · rintro j t _ hj rfl
    have hd : decide ((j : Int) < p2.2.2) = true := decide_eq_true (by omega)
    have no : ∀ {p : Prop}, decide ((j : Int) < p2.2.2) = false → p := fun h => by rw [hd] at h; cases h
    have hp := mul_abs (show -40 ≤ (j : Int) by omega) (show (j : Int) ≤ 40 by omega) W.s.1 W.s.2
    have hb' := W.b
    have w1 : IntKind.i64.wrap ((j : Int) * p2.2.1) = (j : Int) * p2.2.1 := wrap_id (by omega) (by omega)
    have w2 : IntKind.i64.wrap (p2.1 + (j : Int) * p2.2.1) = v_ev p2 j := wrap_id (by omega) (by omega)
    have s1 : v_EV p2 (j + 1) = v_EV p2 j ++ [(v_ev p2 j, v_ev p2 j)] := by unfold v_EV; rw [List.range'_concat]; simp
    refine ⟨?_, .inl ⟨_, ?_, rfl, rfl⟩⟩
    · simp only [sp_law05_GravityGains_3, List.forall_mem_cons, w1, w2, v_EV_len, List.length_cons, List.length_nil]
      exact ⟨fun _ => by omega, no, no, no, no, by simp⟩
    · simp only [st_law05_GravityGains_3, hd, cond_true, w1, w2, s1, wrap_nat (show (j : Int) ≤ 9223372036854775806 by omega)]
end
/-- The plain law. -/
theorem plain_law05_GravityGains (p0 p1 : List Int) (p2 : Int × (Int × Int)) (_ : okPs P_law05_GravityGains (p0, p1, p2)) : (∀ p ∈ pre_law05_GravityGains p0 p1 p2, p) ∧ s_law05_GravityGains p0 p1 p2 = true := by
  simp only [pre_law05_GravityGains, s_law05_GravityGains, List.forall_mem_cons]
  cases hc : cond (cond (cond (cond (v_filerr p0 != 0) true (v_filerr p1 != 0)) true (!(s_base_Within p2.2.2 0 40))) true (!(s_base_Within p2.1 (-1000) 1000))) true (!(s_base_Within p2.2.1 (-1000) 1000))
  · have W : v_gs p0 p1 p2 := by
      rcases int0 (v_filerr p0) with ⟨b1, b2, _⟩ | ⟨b1, b2, _⟩
      · rcases int0 (v_filerr p1) with ⟨c1, c2, _⟩ | ⟨c1, c2, _⟩
        · cases d1 : s_base_Within p2.2.2 0 40
          · rw [b2, c2, d1] at hc; cases hc
          · cases d2 : s_base_Within p2.1 (-1000) 1000
            · rw [b2, c2, d1, d2] at hc; cases hc
            · cases d3 : s_base_Within p2.2.1 (-1000) 1000
              · rw [b2, c2, d1, d2, d3] at hc; cases hc
              · exact ⟨tx_fok b1, tx_fok c1, tx_within.1 d1, tx_within.1 d2, tx_within.1 d3⟩
        · rw [b2, c2] at hc; cases hc
      · rw [b2] at hc; cases hc
    obtain ⟨l1, l2⟩ := w_3 W
    exact ⟨⟨fun _ => l1, by simp⟩, l2⟩
  · exact ⟨⟨fun h => (by cases h), by simp⟩, rfl⟩

theorem own : ownKnob Tryd.prog.godebug = none := by kernel_rfl
theorem laidOut : laidOutB Tryd.prog = true := by kernel_rfl
theorem hfn12 : Tryd.prog.funcs[12]? = some (fnOf Tryd.prog 12) := by kernel_rfl
theorem hps12 : (fnOf Tryd.prog 12).params.size = 3 := by kernel_rfl
theorem globs (W : World) (h : laidMetH Tryd.prog Rows.gravityGainsRow.laid W) : Glob (fun b => b < W.heap.size) W := by
  intro g cs hg
  match g, hg with
  | 0, hg =>
    have e : [.int .i64 1, .int .i64 (-2), .int .i64 1] = cs := Option.some.inj hg
    subst e
    exact glob_ints (zs := [1, -2, 1]) (k := .i64) (t := 25) (e := 3) h (by kernel_rfl) (n := "cloverleaf/gravity.second") (.head _) (by kernel_rfl) (by kernel_rfl) (by kernel_rfl) (by kernel_rfl) (by kernel_rfl)
  | 1, hg =>
    have e : [.int .i64 1, .int .i64 0, .int .i64 (-1), .int .i64 0] = cs := Option.some.inj hg
    subst e
    exact glob_ints (zs := [1, 0, -1, 0]) (k := .i64) (t := 163) (e := 3) h (by kernel_rfl) (n := "cloverleaf/gravity.cosines") (.tail _ (.head _)) (by kernel_rfl) (by kernel_rfl) (by kernel_rfl) (by kernel_rfl) (by kernel_rfl)
  | _ + 2, hg => cases hg
theorem lifted_GravityGains (os : Os) (started : os.Started) (H : Type) (enc : TypeId × Value → H) :
    ReturnsInHanded {} Tryd.checked os 12 .any (fun w args => (Rows.gravityGainsSpec.pre enc Tryd.prog (fnOf Tryd.prog 12) Rows.gravityGainsRow.domain false w args ∧ laidMetH Tryd.prog Rows.gravityGainsRow.laid w) ∧ sizedMet enc Tryd.prog (fnOf Tryd.prog 12) (OpenSpec.ofChange Rows.gravityGainsSpec) false w args)
      (Rows.gravityGainsSpec.post enc Tryd.prog (fnOf Tryd.prog 12) false true false false) :=
  said_of_laid (C := Tryd.checked) (laid := Rows.gravityGainsRow.laid) (ss := P_law05_GravityGains.map shP) (by kernel_rfl) own started (by kernel_rfl) hfn12
    (ChangeSpec.witness_shaped (enc := enc) (C := Tryd.checked) (os := os) (X := fun w _ => laidMetH Tryd.prog Rows.gravityGainsRow.laid w) false (World.laidAll Tryd.prog os Rows.gravityGainsRow.laid) (zeroArgs P_law05_GravityGains) 8 (World.laidAll_os _ _ _)
      (World.shaped_of_ZipB (by kernel_rfl) (by kernel_rfl)) (by kernel_rfl) (by kernel_rfl) (by kernel_rfl)
      (by rw [MakeChecks.laidMetH_plain _ _ _ (by kernel_rfl)]; exact laidMet_laidAll _ (by kernel_rfl) (by kernel_rfl))) rfl
    (fun ds h => by
      rw [hps12] at h
      match ds, h with
      | [_, _, _], _ => rfl)
    laidOut (by kernel_rfl) (rt := (fnOf Tryd.prog 12).resultTypes.getD 0 0) (by kernel_rfl) (by kernel_rfl) (by kernel_rfl)
    (law_of ok_law05_GravityGains fun x hx => ⟨(plain_law05_GravityGains x.1 x.2.1 x.2.2 hx).1, congrArg (fun b => V.p (.bool b)) (plain_law05_GravityGains x.1 x.2.1 x.2.2 hx).2⟩) globs
theorem GravityGains_holds : Rows.GravityGainsSaid :=
  OpenClaim.holds_of_wide 12 (fnOf Tryd.prog 12) rfl rfl rfl rfl rfl rfl rfl ⟨rfl, rfl, rfl, rfl, rfl⟩ rfl rfl rfl rfl rfl (by kernel_rfl) hfn12 (by kernel_rfl)
    (of_decide_eq_true (by kernel_rfl)) (by unfold Func.isWrapper; first | (rw [if_pos (by decide +kernel)]; kernel_rfl) | (rw [if_neg (by decide +kernel)]; exact ⟨rfl, rfl⟩))
    (fun os started H enc _ => lifted_GravityGains os started H enc)
theorem GravityGainsCard_holds : Rows.GravityGainsCardSaid :=
  Claim7.holds_tied_plain_at .later [] [.widerDeep, .data] true (true, "7beca0c3d51d5b13018226e0a3ec850405335d46189a4e3e5247aa211c8b033a") false GravityGains_holds (fun _ h => by cases h) (by kernel_rfl) (fun _ h => by cases h) gravityGains_row_tie rfl ⟨rfl, rfl⟩ (by kernel_rfl) rfl
    (fun f fn hf hfn => by
      obtain rfl : f = 12 := Option.some.inj ((show Tryd.prog.funcNamed "cloverleaf/cloverleaflaw05.GravityGains" = some 12 by kernel_rfl).symm.trans hf) |>.symm
      obtain rfl : fn = fnOf Tryd.prog 12 := (Option.some.inj (hfn12.symm.trans hfn)).symm
      exact ⟨by kernel_rfl, fun j t ht => by
        have hm : t ∈ (fnOf Tryd.prog 12).params.toList := by simpa using Array.mem_of_getElem? ht
        have hall : ((fnOf Tryd.prog 12).params.toList.all fun u => !Tryd.prog.wantsStandIn u) = true := by kernel_rfl
        exact (show Tryd.prog.wantsStandIn t = false by simpa using List.all_eq_true.1 hall t hm)⟩)
    (by kernel_rfl)
end Go.Proofs.YtcecdmdnfmgnfaaDoor
