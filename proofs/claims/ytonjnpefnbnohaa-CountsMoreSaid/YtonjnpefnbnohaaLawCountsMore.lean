/- CountsMore: the given statement is proved: at every input the law returns true, and the input reads as it did. No condition. -/
import Derived.Test.YtonjnpefnbnohaaWalkCountsMore
import Derived.Test.YtonjnpefnbnohaaTxU
import Derived.Test.YtonjnpefnbnohaaRows
import Derived.ProofKit
namespace Go.Proofs.Ytonjnpefnbnohaa
open Go Go.Mx
set_option maxRecDepth 100000
theorem few_of {p0 : CR} (h : (!(s_law06_fewKnots p0)) = false) : p0.hs.length ≤ 10 := by
  have h' : decide ((p0.hs.length : Int) ≤ 10) = true := by simpa [s_law06_fewKnots] using h
  have := of_decide_eq_true h'
  omega
theorem floor_eq {n b : Int} (hn : -9223372036854775807 ≤ n ∧ n ≤ 9223372036854775807) (hb : 0 < b) : s_counts_floor n b = n / b := floor_is hn hb
theorem ceil_eq {n b : Int} (hn : -9223372036854775807 ≤ n ∧ n ≤ 9223372036854775807) (hb : 0 < b) : s_counts_ceil n b = cdiv n b := by
  rw [← ceil_is hn hb]
  unfold s_counts_ceil
  have e : IntKind.i64.wrap (0 - n) = -n := by rw [wrap_id (by omega) (by omega)]; omega
  rw [e, floor_eq (by omega) hb]
theorem rounded_eq {n m b : Int} (hn : -9223372036854775807 ≤ n ∧ n ≤ 9223372036854775807) (hm : -9223372036854775807 ≤ m ∧ m ≤ 9223372036854775807) (hb : 0 < b) : s_counts_rounded (n, m) b = (n / b, cdiv m b) := by
  unfold s_counts_rounded
  rw [floor_eq hn hb, ceil_eq hm hb]
/-- The live counts of one window. -/
def liveV (r : CR) (s : CS) (a : Int) : Int × Int := (1000 * a * r.1 / (r.1 - r.2.1 * s.2.1), cdiv (1000 * a * r.1) (r.1 - r.2.1 * s.2.1))
theorem live_eq {r : CR} {s : CS} (h : v_samp r s) : s_counts_rules_live r s = (liveV r s s.1.1, liveV r s s.1.2.1, liveV r s s.1.2.2) := by
  obtain ⟨h1, h2, h3⟩ := tx_live h
  have hp := h.rules.period
  have key : ∀ a : Int, 0 ≤ a ∧ a ≤ 100000 → s_counts_rounded (s_counts_single (IntKind.i64.wrap (IntKind.i64.wrap (1000 * a) * r.1))) (r.1 - r.2.1 * s.2.1) = liveV r s a := by
    intro a ha
    have g := mul_in (x := 1000 * a) (y := r.1) (a := 100000000) (b := 1000000) (by omega) (by omega) (by omega) hp.2
    rw [w_mul_l, wrap_id (n := 1000 * a * r.1) (by omega) (by omega)]
    exact rounded_eq (by omega) (by omega) (by omega)
  unfold s_counts_rules_live
  rw [h1, key _ h.raw0, key _ h.raw1, key _ h.raw2]
theorem liveV_in {r : CR} {s : CS} (h : v_samp r s) {a : Int} (ha : 0 ≤ a ∧ a ≤ 100000) : (0 ≤ (liveV r s a).1 ∧ (liveV r s a).1 ≤ 100000000000000) ∧ (0 ≤ (liveV r s a).2 ∧ (liveV r s a).2 ≤ 100000000000000) ∧ (liveV r s a).1 ≤ (liveV r s a).2 := by
  obtain ⟨_, h2, h3⟩ := tx_live h
  have hp := h.rules.period
  have g := mul_in (x := 1000 * a) (y := r.1) (a := 100000000) (b := 1000000) (by omega) (by omega) (by omega) hp.2
  have g1 := (ediv_abs (1000 * a * r.1) (b := r.1 - r.2.1 * s.2.1) (by omega)).1 g.1
  have g2 := (cdiv_abs (1000 * a * r.1) (b := r.1 - r.2.1 * s.2.1) (by omega)).1 g.1
  have g3 := fdiv_le_cdiv (1000 * a * r.1) (b := r.1 - r.2.1 * s.2.1) (by omega)
  unfold liveV
  simp only
  omega
theorem liveV_mono {r : CR} {s : CS} (h : v_samp r s) {a b : Int} (ha : 0 ≤ a) (hab : a ≤ b) : (liveV r s a).1 ≤ (liveV r s b).1 ∧ (liveV r s a).2 ≤ (liveV r s b).2 := by
  obtain ⟨_, h2, h3⟩ := tx_live h
  have hp := h.rules.period
  have g : 1000 * a * r.1 ≤ 1000 * b * r.1 := Int.mul_le_mul_of_nonneg_right (by omega) (by omega)
  exact ⟨fdiv_mono (by omega) g, cdiv_mono (by omega) g⟩
/-- The background. -/
theorem back_in {m k c : Int} (hm : 0 ≤ m ∧ m ≤ 1000000) (hk : 0 ≤ k ∧ k ≤ 1000) (hc : 0 ≤ c ∧ c ≤ 100100) : IntKind.i64.wrap (m + IntKind.i64.wrap (k * c)) = m + k * c ∧ 0 ≤ k * c ∧ k * c ≤ 100100000 := by
  have g := mul_in hk.1 hk.2 hc.1 hc.2
  rw [w_add_r, wrap_id (by omega) (by omega)]
  omega
theorem back_eq {r : CR} {s : CS} (h : v_samp r s) : s_counts_rules_background r s = (r.2.2.1.1 + r.2.2.2.1.1 * s.2.2.1, r.2.2.1.2.1 + r.2.2.2.1.2.1 * s.2.2.1, r.2.2.1.2.2 + r.2.2.2.1.2.2 * s.2.2.1) := by
  have hc : 0 ≤ s.2.2.1 ∧ s.2.2.1 ≤ 100100 := by have := h.cosmic; omega
  unfold s_counts_rules_background
  rw [(back_in h.rules.air0 h.rules.cos0 hc).1, (back_in h.rules.air1 h.rules.cos1 hc).1, (back_in h.rules.air2 h.rules.cos2 hc).1]
/-- The radon of a count of the upward crystal. -/
def radonV (r : CR) (s : CS) (u : Int) : Int × Int :=
  ((1000000 * u - r.2.2.2.2.1 * ((liveV r s s.1.2.1).2 - (r.2.2.1.2.1 + r.2.2.2.1.2.1 * s.2.2.1))) / (r.2.2.2.2.2.1 - r.2.2.2.2.1), cdiv (1000000 * u - r.2.2.2.2.1 * ((liveV r s s.1.2.1).1 - (r.2.2.1.2.1 + r.2.2.2.1.2.1 * s.2.2.1))) (r.2.2.2.2.2.1 - r.2.2.2.2.1))
theorem radon_eq {r : CR} {s : CS} (h : v_samp r s) : s_counts_rules_radon r s = radonV r s s.2.2.2.1 := by
  obtain ⟨h1, h2, h3⟩ := tx_air h.rules
  have hg := h.rules.ground
  have hu := h.up
  have hb := back_in h.rules.air1 h.rules.cos1 (c := s.2.2.1) (by have := h.cosmic; omega)
  have hm := h.rules.air1
  have hl := liveV_in h h.raw1
  have hd : decide (r.2.2.2.2.1 < 0) = false := decide_eq_false (by omega)
  have g1 := mul_abs (x := r.2.2.2.2.1) (y := (liveV r s s.1.2.1).1 - (r.2.2.1.2.1 + r.2.2.2.1.2.1 * s.2.2.1)) (a := 200) (b := 200000000000000) (by omega) (by omega) (by omega) (by omega)
  have g2 := mul_abs (x := r.2.2.2.2.1) (y := (liveV r s s.1.2.1).2 - (r.2.2.1.2.1 + r.2.2.2.1.2.1 * s.2.2.1)) (a := 200) (b := 200000000000000) (by omega) (by omega) (by omega) (by omega)
  unfold s_counts_rules_radon radonV
  rw [live_eq h, back_eq h, h1]
  simp only [s_counts_minus, s_counts_sum, s_counts_times, s_counts_single, hd, cond_false, show decide ((-1 : Int) < 0) = true from rfl, cond_true, w_mul_r, w_add_r, w_add_l, w_sub_r, w_sub_l, w_neg]
  rw [wrap_id (n := 1000000 * s.2.2.2.1 - r.2.2.2.2.1 * ((liveV r s s.1.2.1).2 - (r.2.2.1.2.1 + r.2.2.2.1.2.1 * s.2.2.1))) (by omega) (by omega), wrap_id (n := 1000000 * s.2.2.2.1 - r.2.2.2.2.1 * ((liveV r s s.1.2.1).1 - (r.2.2.1.2.1 + r.2.2.2.1.2.1 * s.2.2.1))) (by omega) (by omega)]
  exact rounded_eq (by omega) (by omega) (by omega)
theorem radonV_in {r : CR} {s : CS} (h : v_samp r s) (u : Int) : (radonV r s u).1 ≤ (radonV r s u).2 := by
  obtain ⟨_, h2, h3⟩ := tx_air h.rules
  have hg := h.rules.ground
  have hl := liveV_in h h.raw1
  have g : r.2.2.2.2.1 * ((liveV r s s.1.2.1).1 - (r.2.2.1.2.1 + r.2.2.2.1.2.1 * s.2.2.1)) ≤ r.2.2.2.2.1 * ((liveV r s s.1.2.1).2 - (r.2.2.1.2.1 + r.2.2.2.1.2.1 * s.2.2.1)) := Int.mul_le_mul_of_nonneg_left (by omega) hg.1
  exact fdiv_le_cdiv' (by omega) (by omega)
theorem radonV_mono {r : CR} {s : CS} (h : v_samp r s) {u v : Int} (huv : u ≤ v) : (radonV r s u).1 ≤ (radonV r s v).1 ∧ (radonV r s u).2 ≤ (radonV r s v).2 := by
  obtain ⟨_, h2, h3⟩ := tx_air h.rules
  exact ⟨fdiv_mono (by omega) (by omega), cdiv_mono (by omega) (by omega)⟩
theorem LiveOf_ok {p0 : CR} {s : CS} (h : v_both p0 s = 0) : s_counts_LiveOf p0 s = ((liveV p0 s s.1.1, liveV p0 s s.1.2.1, liveV p0 s s.1.2.2), 0) := by
  unfold s_counts_LiveOf; rw [h, live_eq (tx_samp h)]; rfl
theorem RadonOf_ok {p0 : CR} {s : CS} (h : v_both p0 s = 0) : s_counts_RadonOf p0 s = (radonV p0 s s.2.2.2.1, 0) := by
  unfold s_counts_RadonOf; rw [h, radon_eq (tx_samp h)]; rfl
theorem BackOf_ok {p0 : CR} {s : CS} (h : v_both p0 s = 0) : s_counts_BackgroundOf p0 s = ((p0.2.2.1.1 + p0.2.2.2.1.1 * s.2.2.1, p0.2.2.1.2.1 + p0.2.2.2.1.2.1 * s.2.2.1, p0.2.2.1.2.2 + p0.2.2.2.1.2.2 * s.2.2.1), 0) := by
  unfold s_counts_BackgroundOf; rw [h, back_eq (tx_samp h)]; rfl
theorem more_guard {p0 : CR} {p1 : CS} {p2 : Int × Int} (h : (cond (cond (cond (!(s_law06_fewKnots p0)) true (v_both p0 p1 != 0)) true (!(s_base_Within p2.1 0 2))) true (!(s_base_Within p2.2 0 100))) = false) : p0.hs.length ≤ 10 ∧ v_both p0 p1 = 0 ∧ (0 ≤ p2.1 ∧ p2.1 ≤ 2) ∧ 0 ≤ p2.2 ∧ p2.2 ≤ 100 := by
  obtain ⟨h, h4⟩ := tx_or h
  obtain ⟨h, h3⟩ := tx_or h
  obtain ⟨h1, h2⟩ := tx_or h
  exact ⟨few_of h1, bne0 h2, tx_nwithin.1 h3, tx_nwithin.1 h4⟩
theorem tx_skip {b x t : Bool} (h : cond b x false = false) : cond b (cond x false t) t = t := by
  cases b <;> cases x <;> first | rfl | cases h
theorem tx_end {f b x r : Bool} (hf : f = false) (hx : cond b x false = false) (hr : r = true) : cond false true (cond f false (cond b (cond x false r) r)) = true := by
  subst hf; rw [tx_skip hx, hr]; rfl
theorem tx_or' {a b : Bool} (ha : a = false) (hb : b = false) : cond a true b = false := by subst ha; exact hb
theorem more_live {p0 : CR} {p1 : CS} (hs : v_samp p0 p1) (q : Int × Int × Int) (f : (Int × Int) × (Int × Int) × Int × Int → Int × Int) (g : Int × Int × Int → Int) (a : Int) (ha : 0 ≤ a) (hf : f (liveV p0 p1 q.1, liveV p0 p1 q.2.1, liveV p0 p1 q.2.2) = liveV p0 p1 (g q)) (hg : a ≤ g q) :
    cond (v_both p0 (q, p1.2) == 0) (cond (cond ((s_counts_LiveOf p0 (q, p1.2)).2 != 0) true (decide ((f (s_counts_LiveOf p0 (q, p1.2)).1).1 < (liveV p0 p1 a).1))) true (decide ((f (s_counts_LiveOf p0 (q, p1.2)).1).2 < (liveV p0 p1 a).2))) false = false := by
  rcases hb : (v_both p0 (q, p1.2) == 0) with _ | _
  · rfl
  · have e : s_counts_LiveOf p0 (q, p1.2) = ((liveV p0 p1 q.1, liveV p0 p1 q.2.1, liveV p0 p1 q.2.2), 0) := LiveOf_ok (beq0 hb)
    have m := liveV_mono hs ha hg
    rw [e, hf]
    exact tx_or' (tx_or' rfl (decide_eq_false (by omega))) (decide_eq_false (by omega))
/-- The plain law. -/
theorem plain_law06_CountsMore (p0 : CR) (p1 : CS) (p2 : Int × Int) (_ : okPs P_law06_CountsMore (p0, p1, p2)) : (∀ p ∈ pre_law06_CountsMore p0 p1 p2, p) ∧ s_law06_CountsMore p0 p1 p2 = true := by
  constructor
  · intro p hp
    simp only [pre_law06_CountsMore, List.mem_cons, List.not_mem_nil, or_false] at hp
    rcases hp with rfl | rfl | rfl | rfl | rfl | rfl | rfl | rfl | rfl | rfl | rfl | rfl | rfl | rfl | rfl | rfl
    all_goals
      intro h
      obtain ⟨g1, g2, g3, g4⟩ := more_guard h
      intros
      first | exact g1 | omega
  · unfold s_law06_CountsMore
    rcases hg : (cond (cond (cond (!(s_law06_fewKnots p0)) true (v_both p0 p1 != 0)) true (!(s_base_Within p2.1 0 2))) true (!(s_base_Within p2.2 0 100))) with _ | _
    · obtain ⟨_, g2, g3, g4⟩ := more_guard hg
      have hs := tx_samp g2
      obtain ⟨i, x⟩ := p2
      simp only at g3 g4
      have l0 := liveV_in hs hs.raw0
      have l1 := liveV_in hs hs.raw1
      have l2 := liveV_in hs hs.raw2
      have rr := radonV_in hs p1.2.2.2.1
      have hr0 := hs.raw0
      have hr1 := hs.raw1
      have hr2 := hs.raw2
      have hu := hs.up
      have hc := hs.cosmic
      have b0 := back_in hs.rules.air0 hs.rules.cos0 (c := p1.2.2.1) (by omega)
      have b1 := back_in hs.rules.air1 hs.rules.cos1 (c := p1.2.2.1) (by omega)
      have b2 := back_in hs.rules.air2 hs.rules.cos2 (c := p1.2.2.1) (by omega)
      have a0 := hs.rules.air0
      have a1 := hs.rules.air1
      have a2 := hs.rules.air2
      have eU : IntKind.i64.wrap (p1.2.2.2.1 + x) = p1.2.2.2.1 + x := wrap_id (by omega) (by omega)
      have eS : IntKind.i64.wrap (p1.2.2.1 + x) = p1.2.2.1 + x := wrap_id (by omega) (by omega)
      have hU : v_both p0 (p1.1, p1.2.1, p1.2.2.1, p1.2.2.2.1 + x, p1.2.2.2.2) = 0 → s_counts_RadonOf p0 (p1.1, p1.2.1, p1.2.2.1, p1.2.2.2.1 + x, p1.2.2.2.2) = (radonV p0 p1 (p1.2.2.2.1 + x), 0) := fun h => RadonOf_ok h
      have mU := radonV_mono hs (show p1.2.2.2.1 ≤ p1.2.2.2.1 + x by omega)
      have hS := fun h : v_both p0 (p1.1, p1.2.1, p1.2.2.1 + x, p1.2.2.2) = 0 => BackOf_ok h
      have hL : ∀ q : Int × Int × Int, v_both p0 (q, p1.2) = 0 → s_counts_LiveOf p0 (q, p1.2) = ((liveV p0 p1 q.1, liveV p0 p1 q.2.1, liveV p0 p1 q.2.2), 0) := fun q h => LiveOf_ok h
      have tail : (cond (v_both p0 (p1.1, p1.2.1, p1.2.2.1 + x, p1.2.2.2) != 0) true (cond ((s_counts_BackgroundOf p0 (p1.1, p1.2.1, p1.2.2.1 + x, p1.2.2.2)).2 != 0) false
          (cond (cond (!(s_base_Within (s_counts_BackgroundOf p0 p1).1.1 0 1000000000)) true ((s_counts_BackgroundOf p0 (p1.1, p1.2.1, p1.2.2.1 + x, p1.2.2.2)).1.1 != IntKind.i64.wrap ((s_counts_BackgroundOf p0 p1).1.1 + IntKind.i64.wrap (x * p0.2.2.2.1.1)))) false
          (cond (cond (!(s_base_Within (s_counts_BackgroundOf p0 p1).1.2.1 0 1000000000)) true ((s_counts_BackgroundOf p0 (p1.1, p1.2.1, p1.2.2.1 + x, p1.2.2.2)).1.2.1 != IntKind.i64.wrap ((s_counts_BackgroundOf p0 p1).1.2.1 + IntKind.i64.wrap (x * p0.2.2.2.1.2.1)))) false
          (cond (cond (!(s_base_Within (s_counts_BackgroundOf p0 p1).1.2.2 0 1000000000)) true ((s_counts_BackgroundOf p0 (p1.1, p1.2.1, p1.2.2.1 + x, p1.2.2.2)).1.2.2 != IntKind.i64.wrap ((s_counts_BackgroundOf p0 p1).1.2.2 + IntKind.i64.wrap (x * p0.2.2.2.1.2.2)))) false true))))) = true := by
        rcases hb : (v_both p0 (p1.1, p1.2.1, p1.2.2.1 + x, p1.2.2.2) != 0) with _ | _
        · have key : ∀ m k : Int, (0 ≤ m ∧ m ≤ 1000000) → (0 ≤ k ∧ k ≤ 1000) → (!(s_base_Within (m + k * p1.2.2.1) 0 1000000000)) = false ∧ (m + k * (p1.2.2.1 + x) != IntKind.i64.wrap (m + k * p1.2.2.1 + IntKind.i64.wrap (x * k))) = false := by
            intro m k hm hk
            have q1 := back_in hm hk (c := p1.2.2.1) (by omega)
            have q2 := back_in hm hk (c := p1.2.2.1 + x) (by omega)
            have q3 := mul_in g4.1 g4.2 hk.1 hk.2
            have e : k * (p1.2.2.1 + x) = k * p1.2.2.1 + x * k := by rw [Int.mul_add, Int.mul_comm k x]
            refine ⟨?_, ?_⟩
            · rw [tx_eqw, tx_nwithin]; omega
            · rw [w_add_r, wrap_id (by omega) (by omega), e, Int.add_assoc]; simp
          rw [hS (bne0 hb), BackOf_ok g2]
          simp only [(key _ _ a0 hs.rules.cos0).1, (key _ _ a0 hs.rules.cos0).2, (key _ _ a1 hs.rules.cos1).1, (key _ _ a1 hs.rules.cos1).2, (key _ _ a2 hs.rules.cos2).1, (key _ _ a2 hs.rules.cos2).2]
          rfl
        · rfl
      have hi : i = 0 ∨ i = 1 ∨ i = 2 := by omega
      rw [LiveOf_ok g2, RadonOf_ok g2] at *
      have up : (cond (v_both p0 (p1.1, p1.2.1, p1.2.2.1, p1.2.2.2.1 + x, p1.2.2.2.2) == 0) (cond (cond ((s_counts_RadonOf p0 (p1.1, p1.2.1, p1.2.2.1, p1.2.2.2.1 + x, p1.2.2.2.2)).2 != 0) true (decide ((s_counts_RadonOf p0 (p1.1, p1.2.1, p1.2.2.1, p1.2.2.2.1 + x, p1.2.2.2.2)).1.1 < (radonV p0 p1 p1.2.2.2.1).1))) true (decide ((s_counts_RadonOf p0 (p1.1, p1.2.1, p1.2.2.1, p1.2.2.2.1 + x, p1.2.2.2.2)).1.2 < (radonV p0 p1 p1.2.2.2.1).2))) false) = false := by
        rcases hb : (v_both p0 (p1.1, p1.2.1, p1.2.2.1, p1.2.2.2.1 + x, p1.2.2.2.2) == 0) with _ | _
        · rfl
        · rw [hU (beq0 hb)]
          simp only [decide_eq_false (show ¬ (radonV p0 p1 (p1.2.2.2.1 + x)).1 < (radonV p0 p1 p1.2.2.2.1).1 by omega), decide_eq_false (show ¬ (radonV p0 p1 (p1.2.2.2.1 + x)).2 < (radonV p0 p1 p1.2.2.2.1).2 by omega)]
          rfl
      have hR := (tx_skip up).trans tail
      have F1 : decide ((radonV p0 p1 p1.2.2.2.1).1 > (radonV p0 p1 p1.2.2.2.1).2) = false := decide_eq_false (by omega)
      have hBk : ((s_counts_BackgroundOf p0 p1).2 != 0) = false := by rw [BackOf_ok g2]; rfl
      simp only [eU, eS]
      rcases hi with rfl | rfl | rfl
      · have eN : IntKind.i64.wrap (List.getD (p1.1.1 :: p1.1.2.1 :: p1.1.2.2 :: []) (Int.toNat 0) 0 + x) = p1.1.1 + x := wrap_id (n := p1.1.1 + x) (by omega) (by omega)
        rw [eN]
        exact tx_end (tx_or' (tx_or' (tx_or' (tx_or' rfl rfl) hBk) (show decide ((liveV p0 p1 p1.1.1).1 > (liveV p0 p1 p1.1.1).2) = false from decide_eq_false (by omega))) F1)
          (more_live hs (p1.1.1 + x, p1.1.2.1, p1.1.2.2) (fun z => z.1) (fun q => q.1) p1.1.1 hr0.1 rfl (by show p1.1.1 ≤ p1.1.1 + x; omega)) hR
      · have eN : IntKind.i64.wrap (List.getD (p1.1.1 :: p1.1.2.1 :: p1.1.2.2 :: []) (Int.toNat 1) 0 + x) = p1.1.2.1 + x := wrap_id (n := p1.1.2.1 + x) (by omega) (by omega)
        rw [eN]
        exact tx_end (tx_or' (tx_or' (tx_or' (tx_or' rfl rfl) hBk) (show decide ((liveV p0 p1 p1.1.2.1).1 > (liveV p0 p1 p1.1.2.1).2) = false from decide_eq_false (by omega))) F1)
          (more_live hs (p1.1.1, p1.1.2.1 + x, p1.1.2.2) (fun z => z.2.1) (fun q => q.2.1) p1.1.2.1 hr1.1 rfl (by show p1.1.2.1 ≤ p1.1.2.1 + x; omega)) hR
      · have eN : IntKind.i64.wrap (List.getD (p1.1.1 :: p1.1.2.1 :: p1.1.2.2 :: []) (Int.toNat 2) 0 + x) = p1.1.2.2 + x := wrap_id (n := p1.1.2.2 + x) (by omega) (by omega)
        rw [eN]
        exact tx_end (tx_or' (tx_or' (tx_or' (tx_or' rfl rfl) hBk) (show decide ((liveV p0 p1 p1.1.2.2).1 > (liveV p0 p1 p1.1.2.2).2) = false from decide_eq_false (by omega))) F1)
          (more_live hs (p1.1.1, p1.1.2.1, p1.1.2.2 + x) (fun z => z.2.2) (fun q => q.2.2) p1.1.2.2 hr2.1 rfl (by show p1.1.2.2 ≤ p1.1.2.2 + x; omega)) hR
    · rfl

theorem own : ownKnob Try.prog.godebug = none := by kernel_rfl
theorem laidOut : laidOutB Try.prog = true := by kernel_rfl
theorem hfn7 : Try.prog.funcs[7]? = some (fnOf Try.prog 7) := by kernel_rfl
theorem hps7 : (fnOf Try.prog 7).params.size = 3 := by kernel_rfl
theorem lifted_CountsMore (os : Os) (started : os.Started) (H : Type) (enc : TypeId × Value → H) :
    ReturnsInHanded {} Try.checked os 7 .any (Rows.countsMoreSpec.pre6 enc Try.prog (fnOf Try.prog 7) [] false) (Rows.countsMoreSpec.post enc Try.prog (fnOf Try.prog 7) false true false false) :=
  said_of (C := Try.checked) (ss := P_law06_CountsMore.map shP) own started (by kernel_rfl) hfn7
    (ChangeSpec.witness6 (enc := enc) (C := Try.checked) false ⟨#[], zeroArgs P_law06_CountsMore, []⟩ 8 (by kernel_rfl) (by kernel_rfl) (by kernel_rfl) (by kernel_rfl)) rfl
    (fun ds h => by
      rw [hps7] at h
      match ds, h with
      | [_, _, _], _ => rfl)
    laidOut (by kernel_rfl) (rt := (fnOf Try.prog 7).resultTypes.getD 0 0) (by kernel_rfl) (by kernel_rfl) (by kernel_rfl)
    (law_of ok_law06_CountsMore fun x hx => ⟨(plain_law06_CountsMore x.1 x.2.1 x.2.2 hx).1, congrArg (fun b => V.p (.bool b)) (plain_law06_CountsMore x.1 x.2.1 x.2.2 hx).2⟩)
theorem CountsMore_holds : Rows.CountsMoreSaid :=
  OpenClaim.holds_of_wide 7 (fnOf Try.prog 7) rfl rfl rfl rfl rfl rfl rfl ⟨rfl, rfl, rfl, rfl, rfl⟩ rfl rfl rfl rfl rfl (by kernel_rfl) hfn7 (by kernel_rfl)
    (of_decide_eq_true (by kernel_rfl)) (by unfold Func.isWrapper; first | (rw [if_pos (by decide +kernel)]; kernel_rfl) | (rw [if_neg (by decide +kernel)]; exact ⟨rfl, rfl⟩))
    (fun os started H enc _ => lifted_CountsMore os started H enc)
end Go.Proofs.Ytonjnpefnbnohaa
