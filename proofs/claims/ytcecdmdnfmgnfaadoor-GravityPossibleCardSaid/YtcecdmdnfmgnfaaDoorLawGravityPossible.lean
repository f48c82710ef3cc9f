/- GravityPossible: the given statement is proved: at every input the law returns true, and the input reads as it did. No condition. -/
import Derived.Test.YtcecdmdnfmgnfaaDoorWalkGravityPossible
import Derived.Test.YtcecdmdnfmgnfaaDoorLayB
import Derived.Test.YtcecdmdnfmgnfaaDoorMxUl
import Derived.Test.YtcecdmdnfmgnfaaDoorRows
import Derived.Test.YtcecdmdnfmgnfaaDoorCards
import Derived.Test.YtcecdmdnfmgnfaaDoorTie
import Derived.ProofKit
import Derived.SevenTiedAt
namespace Go.Proofs.YtcecdmdnfmgnfaaDoor
open Go Go.Mx
set_option maxRecDepth 100000
theorem v_fb.small {x : Int × Int} (h : v_fb x) : v_small x = true := by
 obtain ⟨h1, h2⟩ := h
 unfold v_small s_gravity_isSized
 rw [show IntKind.i64.wrap (0 - 1000000000) = -1000000000 from rfl, tx_within'.2 h1, decide_eq_true h2.2]; rfl
theorem v_fb.isSmall {x : Int × Int} (h : v_fb x) : s_base_IsSmall x = true := by
 have := h.small
 unfold v_small at this
 unfold s_base_IsSmall
 rw [(tx_small h.d.1).1, (tx_small h.d.1).2]; exact this
theorem v_fb.gok {x : Int × Int} (h : v_fb x) : v_gok x.1 x.2 := by
 obtain ⟨h1, h2⟩ := h
 exact v_gok_of (by unfold v_fit; omega) (by unfold v_fit; omega)
theorem v_low_one {x : Int × Int} (h : 0 < x.2) : (cond (decide ((v_low x).2 > 0)) (v_gcd (v_low x).1 (v_low x).2 == 1) false) = true := by
 rw [decide_eq_true (show (v_low x).2 > 0 from v_low_pos h)]
 have hg := v_gcd_pos (a := x.1) (b := x.2) (by omega)
 have : v_gcd (v_low x).1 (v_low x).2 = 1 := by
  unfold v_low v_gcd
  unfold v_gcd at hg
  rw [Int.gcd_ediv_gcd_ediv_gcd (by omega)]; rfl
 rw [this]; rfl
theorem v_beg_top {p0 : List (Int × (Int × Int))} {p1 : Int × Int} : ∀ (n : Nat), 1 ≤ n → (∀ k, k < n → v_bl p0 p1 k ≤ (v_beg p0 p1 n).1 ∧ (v_beg p0 p1 n).2 ≤ v_bh p0 p1 k) ∧ (∃ k, k < n ∧ (v_beg p0 p1 n).1 = v_bl p0 p1 k) ∧ (∃ k, k < n ∧ (v_beg p0 p1 n).2 = v_bh p0 p1 k)
 | 0, h => by omega
 | 1, _ => ⟨fun k hk => (by have e : k = 0 := (by omega); subst e; exact ⟨Int.le_refl _, Int.le_refl _⟩), ⟨0, by omega, rfl⟩, ⟨0, by omega, rfl⟩⟩
 | n + 2, _ => by
  obtain ⟨g1, ⟨k1, h1, e1⟩, ⟨k2, h2, e2⟩⟩ := v_beg_top (p0 := p0) (p1 := p1) (n + 1) (by omega)
  rw [v_beg_succ (by omega)]
  refine ⟨fun k hk => ?_, ?_, ?_⟩
  ·by_cases e : k = n + 1
   ·subst e; simp only; omega
   ·have := g1 k (by omega); simp only; omega
  ·rcases Int.lt_or_le (v_beg p0 p1 (n + 1)).1 (v_bl p0 p1 (n + 1)) with c | c
   ·exact ⟨n + 1, by omega, by simp only; omega⟩
   ·exact ⟨k1, by omega, by simp only; omega⟩
  ·rcases Int.lt_or_le (v_bh p0 p1 (n + 1)) (v_beg p0 p1 (n + 1)).2 with c | c
   ·exact ⟨n + 1, by omega, by simp only; omega⟩
   ·exact ⟨k2, by omega, by simp only; omega⟩
theorem v_pair_lo {p0 : List (Int × (Int × Int))} {p1 : Int × Int} {a b : Nat} : v_le (v_lo p0 a b) p1 ↔ v_bl p0 p1 b ≤ v_bh p0 p1 a := by
 unfold v_le v_lo v_bl v_bh
 simp only [Int.sub_mul, Int.mul_sub]
 omega
theorem v_pair_hi {p0 : List (Int × (Int × Int))} {p1 : Int × Int} {a b : Nat} : v_le p1 (v_hi p0 a b) ↔ v_bl p0 p1 a ≤ v_bh p0 p1 b := by
 unfold v_le v_hi v_bl v_bh
 simp only [Int.sub_mul, Int.mul_sub]
 omega
/-- A rate is possible if it lies within the rates. -/
theorem v_poss {p0 : List (Int × (Int × Int))} {p1 : Int × Int} (h : v_vok p0) (hr : v_rok p1) {r : (Int × Int) × (Int × Int)} (hb : v_best p0 (v_all p0) r) : (v_beg p0 p1 p0.length).1 ≤ (v_beg p0 p1 p0.length).2 ↔ v_le r.1 p1 ∧ v_le p1 r.2 := by
 have htwo := h.two
 obtain ⟨f1, f2⟩ := hb.fb h
 obtain ⟨g1, ⟨k1, h1, e1⟩, ⟨k2, h2, e2⟩⟩ := v_beg_top (p0 := p0) (p1 := p1) p0.length (by omega)
 constructor
 ·intro hle
  obtain ⟨⟨a1, b1, d1, q1⟩, ⟨a2, b2, d2, q2⟩, _, _⟩ := hb
  rw [q1, q2]
  have := d1.1
  have := d1.2
  have := d2.1
  have := d2.2
  refine ⟨v_pair_lo.2 ?_, v_pair_hi.2 ?_⟩
  ·have := (g1 b1 (by omega)).1
   have := (g1 a1 (by omega)).2
   omega
  ·have := (g1 a2 (by omega)).1
   have := (g1 b2 (by omega)).2
   omega
 ·rintro ⟨l1, l2⟩
  rw [e1, e2]
  rcases Nat.lt_trichotomy k1 k2 with c | c | c
  ·have q := (h.fb c h2).2
   exact v_pair_hi.1 (v_le_trans hr.d.1 f2.d.1 q.d.1 l2 (hb.bot _ _ ⟨c, h2⟩))
  ·subst c
   have ha := h.all k1 h1
   unfold v_bl v_bh
   have := Int.mul_le_mul_of_nonneg_right ha.2.2.2 (Int.le_of_lt hr.d.1)
   omega
  ·have q := (h.fb c h1).1
   exact v_pair_lo.1 (v_le_trans q.d.1 f1.d.1 hr.d.1 (hb.top _ _ ⟨c, h1⟩) l1)
theorem v_rok.fb {p1 : Int × Int} (h : v_rok p1) : v_fb p1 := ⟨by have := h.n; omega, by have := h.d; omega⟩
/-- What a rate is answered. -/
theorem l_crate {p0 : List (Int × (Int × Int))} {p1 : Int × Int} (h : v_vok p0) (hv : (v_visits p0).2 = 0) (hr : v_rok p1) (hre : v_rerr p1 = 0) : ((v_le (v_rates p0).1 p1 ∧ v_le p1 (v_rates p0).2) ∧ ((t_gravity_CheckRate p0 p1).2 = 0 ∨ (t_gravity_CheckRate p0 p1).2 = 8)) ∨ (¬ (v_le (v_rates p0).1 p1 ∧ v_le p1 (v_rates p0).2) ∧ (t_gravity_CheckRate p0 p1).2 = 19) := by
 have hp := v_poss h hr (v_rates_best h)
 have e : t_gravity_CheckRate p0 p1 = v_crate p0 p1 := by unfold t_gravity_CheckRate; rw [hv, hre]; rfl
 rw [e]
 unfold v_crate
 by_cases c : (v_beg p0 p1 p0.length).1 ≤ (v_beg p0 p1 p0.length).2
 ·refine .inl ⟨hp.1 c, ?_⟩
  rw [decide_eq_false (show ¬ (v_beg p0 p1 p0.length).1 > (v_beg p0 p1 p0.length).2 by omega)]
  unfold v_span
  cases (cond (v_small (v_low ((v_beg p0 p1 p0.length).1, p1.2))) (v_small (v_low ((v_beg p0 p1 p0.length).2, p1.2))) false)
  ·exact .inr rfl
  ·exact .inl rfl
 ·refine .inr ⟨fun k => c (hp.2 k), ?_⟩
  rw [decide_eq_true (show (v_beg p0 p1 p0.length).1 > (v_beg p0 p1 p0.length).2 by omega)]; rfl
theorem l_rate {p0 : List (Int × (Int × Int))} (h : v_vok p0) (hv : (v_visits p0).2 = 0) : (v_le (v_rates p0).1 (v_rates p0).2 ∧ t_gravity_RateOf p0 = ((v_low (v_rates p0).1, v_low (v_rates p0).2), 0)) ∨ (¬ v_le (v_rates p0).1 (v_rates p0).2 ∧ t_gravity_RateOf p0 = (((0, 0), (0, 0)), 13)) := by
 obtain ⟨f1, f2⟩ := (v_rates_best h).fb h
 unfold t_gravity_RateOf
 rw [hv]
 by_cases c : v_le (v_rates p0).1 (v_rates p0).2
 ·rw [decide_eq_true c]
  refine .inl ⟨c, ?_⟩
  simp only [bne_self_eq_false, cond_false, cond_true]
  unfold v_span
  rw [(v_low_fb f1).small, (v_low_fb f2).small]; rfl
 ·rw [decide_eq_false c]
  exact .inr ⟨c, rfl⟩
theorem v_scan_all {α ρ : Type} {f : Int → α → Option ρ} {e : ρ} : ∀ (l : List α) (i : Int), (∀ k, (h : k < l.length) → f (i + k) l[k] = none) → v_scan f e i l = e
 | [], _, _ => rfl
 | x :: r, i, h => by
  unfold v_scan
  have h0 := h 0 (by simp)
  simp only [Int.natCast_zero, Int.add_zero, List.getElem_cons_zero] at h0
  rw [h0]
  refine v_scan_all r (i + 1) fun k hk => ?_
  have := h (k + 1) (by simpa using hk)
  rw [List.getElem_cons_succ] at this
  rw [show i + 1 + (k : Int) = i + ((k + 1 : Nat) : Int) by omega]; exact this
theorem tx_range4 {x : Int × Int} (h1 : -1000000 ≤ x.1 ∧ x.1 ≤ 1000000) (h2 : -1000000 ≤ x.2 ∧ x.2 ≤ 1000000) (h3 : x.1 ≤ x.2) : s_gravity_rangeErr x 1000000 = 0 := by
 unfold s_gravity_rangeErr s_gravity_isSized
 rw [show IntKind.i64.wrap (0 - 1000000) = -1000000 from rfl, tx_within'.2 h1, tx_within'.2 h2, decide_eq_true h3]; rfl
/-- Valid visits have no error. -/
theorem v_vok.err {p0 : List (Int × (Int × Int))} (h : v_vok p0) : (v_visits p0).2 = 0 := by
 have h1 := h.two
 have h2 := h.ten
 unfold v_visits
 rw [decide_eq_true (show (p0.length : Int) ≥ 2 by omega), decide_eq_true (show (p0.length : Int) ≤ 10 by omega)]
 show (v_scan (fun i x => cond (v_ve p0 i x != 0) (some (i, v_ve p0 i x)) none) ((0 : Int), (0 : Int)) 0 p0).2 = 0
 rw [v_scan_all]
 intro k hk
 rw [← gd_get (0, (0, 0)) hk, Int.zero_add]
 have ha := h.all k hk
 have : v_ve p0 k (p0.getD k (0, (0, 0))) = 0 := by
  unfold v_ve
  rw [tx_within'.2 ha.1, tx_range4 ha.2.1 ha.2.2.1 ha.2.2.2]
  by_cases c : k = 0
  ·subst c; rfl
  ·have := h.asc (k - 1) (by omega)
   rw [show k - 1 + 1 = k by omega] at this
   rw [show ((k : Int) == 0) = false by simp; omega, show (max 0 ((k : Int) - 1)).toNat = k - 1 by omega, decide_eq_true (show (p0.getD k (0, (0, 0))).1 > (p0.getD (k - 1) (0, (0, 0))).1 from this)]; rfl
 rw [this]; rfl
theorem v_vok.take {p0 : List (Int × (Int × Int))} (h : v_vok p0) (h2 : 2 < p0.length) : v_vok (List.take (p0.length - 1) p0) := by
 have ht := h.ten
 have hl : (List.take (p0.length - 1) p0).length = p0.length - 1 := by rw [List.length_take]; omega
 refine ⟨by omega, by omega, fun k hk => ?_, fun k hk => ?_⟩
 ·rw [gd_take (by omega)]; exact h.all k (by omega)
 ·rw [gd_take (by omega), gd_take (by omega)]; exact h.asc k (by omega)
theorem l_take {p0 : List (Int × (Int × Int))} (h : v_vok p0) (h2 : 2 < p0.length) (c : v_le (v_rates p0).1 (v_rates p0).2) : ∃ s : (Int × Int) × (Int × Int), v_fb s.1 ∧ v_fb s.2 ∧ v_le s.1 (v_low (v_rates p0).1) ∧ v_le (v_low (v_rates p0).2) s.2 ∧ t_gravity_RateOf (List.take (p0.length - 1) p0) = (s, 0) := by
 have ht := h.take h2
 have hb := v_rates_best h
 have hb' := v_rates_best ht
 obtain ⟨f1, f2⟩ := hb.fb h
 obtain ⟨g1, g2⟩ := hb'.fb ht
 have hl : (List.take (p0.length - 1) p0).length = p0.length - 1 := by rw [List.length_take]; omega
 have l1 : v_le (v_rates (List.take (p0.length - 1) p0)).1 (v_rates p0).1 := by
  obtain ⟨a, b, d, e⟩ := hb'.lo
  have d1 := d.1
  have d2 := d.2
  rw [e]
  have : v_lo (List.take (p0.length - 1) p0) a b = v_lo p0 a b := by unfold v_lo; rw [gd_take (by omega), gd_take (by omega)]
  rw [this]; exact hb.top a b ⟨by omega, by omega⟩
 have l2 : v_le (v_rates p0).2 (v_rates (List.take (p0.length - 1) p0)).2 := by
  obtain ⟨a, b, d, e⟩ := hb'.hi
  have d1 := d.1
  have d2 := d.2
  rw [e]
  have : v_hi (List.take (p0.length - 1) p0) a b = v_hi p0 a b := by unfold v_hi; rw [gd_take (by omega), gd_take (by omega)]
  rw [this]; exact hb.bot a b ⟨by omega, by omega⟩
 rcases l_rate ht ht.err with ⟨_, q⟩ | ⟨q, _⟩
 ·exact ⟨_, v_low_fb g1, v_low_fb g2, (v_le_low g1.d.1 f1.d.1).2 l1, (v_le_low f2.d.1 g2.d.1).2 l2, q⟩
 ·exact absurd (v_le_trans g1.d.1 f1.d.1 g2.d.1 l1 (v_le_trans f1.d.1 f2.d.1 g2.d.1 c l2)) q
/-- The visits that lie on a line, but for what is wrong. -/
def v_own (p0 : List (Int × (Int × Int))) (p2 : Int × (Int × List Int)) (k : Nat) : Int × (Int × Int) := ((p0.getD k (0, (0, 0))).1.tmod 500, (p2.1 + p2.2.1 * (p0.getD k (0, (0, 0))).1.tmod 500 - p2.2.2.getD k 0 % 100, p2.1 + p2.2.1 * (p0.getD k (0, (0, 0))).1.tmod 500 + p2.2.2.getD k 0 % 7))
theorem l_own {p0 : List (Int × (Int × Int))} {p2 : Int × (Int × List Int)} (h : v_vok p0) (b1 : -1000 ≤ p2.1 ∧ p2.1 ≤ 1000) (b2 : -1000 ≤ p2.2.1 ∧ p2.2.1 ≤ 1000) {k : Nat} (hk : k < p0.length) : (0 ≤ (v_own p0 p2 k).1 ∧ (v_own p0 p2 k).1 < 500) ∧ (-500000 ≤ p2.2.1 * (v_own p0 p2 k).1 ∧ p2.2.1 * (v_own p0 p2 k).1 ≤ 500000) ∧ IntKind.i64.wrap (IntKind.i64.wrap (p2.1 + IntKind.i64.wrap (p2.2.1 * (p0.getD k (0, (0, 0))).1.tmod 500)) - p2.2.2.getD k 0 % 100) = (v_own p0 p2 k).2.1 ∧ IntKind.i64.wrap (IntKind.i64.wrap (p2.1 + IntKind.i64.wrap (p2.2.1 * (p0.getD k (0, (0, 0))).1.tmod 500)) + p2.2.2.getD k 0 % 7) = (v_own p0 p2 k).2.2 := by
 have ha := h.all k hk
 have e : (p0.getD k (0, (0, 0))).1.tmod 500 = (p0.getD k (0, (0, 0))).1 % 500 := Int.tmod_eq_emod_of_nonneg ha.1.1
 have hm := mul_abs b2.1 b2.2 (show -500 ≤ (p0.getD k (0, (0, 0))).1.tmod 500 by omega) (show (p0.getD k (0, (0, 0))).1.tmod 500 ≤ 500 by omega)
 unfold v_own
 simp only
 generalize hx : (p0.getD k (0, (0, 0))).1.tmod 500 = x at *
 rw [wrap_id (n := p2.2.1 * x) (by omega) (by omega), wrap_id (n := p2.1 + p2.2.1 * x) (by omega) (by omega), wrap_id (by omega) (by omega), wrap_id (by omega) (by omega)]
 refine ⟨by omega, by omega, rfl, rfl⟩
theorem v_low1 (x : Int) : v_low (x, 1) = (x, 1) := by
 have : v_gcd x 1 = 1 := by unfold v_gcd; rw [Int.gcd_one]; rfl
 unfold v_low
 simp only [this, Int.ediv_one]
/-- The slope of a line is possible. -/
theorem l_line {own : List (Int × (Int × Int))} {b s : Int} (h : v_vok own) (hb : -1000 ≤ b ∧ b ≤ 1000) (hs : -1000 ≤ s ∧ s ≤ 1000) (hk : ∀ k, k < own.length → b - 99 ≤ v_bl own (s, 1) k ∧ v_bl own (s, 1) k ≤ b ∧ b ≤ v_bh own (s, 1) k ∧ v_bh own (s, 1) k ≤ b + 6) : ∃ x y, t_gravity_CheckRate own (s, 1) = (((x, 1), (y, 1)), 0) ∧ v_fb (x, 1) ∧ v_fb (y, 1) ∧ x ≤ b ∧ b ≤ y := by
 have htwo := h.two
 have hre : v_rerr (s, 1) = 0 := by
  have : v_gcd s 1 = 1 := by unfold v_gcd; rw [Int.gcd_one]; rfl
  unfold v_rerr s_gravity_isSized
  simp only [this]
  rw [show IntKind.i64.wrap (0 - 1000000) = -1000000 from rfl, tx_within'.2 (show -1000000 ≤ s ∧ s ≤ 1000000 by omega)]; rfl
 obtain ⟨g1, ⟨k1, h1, e1⟩, ⟨k2, h2, e2⟩⟩ := v_beg_top (p0 := own) (p1 := (s, 1)) own.length (by omega)
 have q1 := hk k1 h1
 have q2 := hk k2 h2
 have f1 : v_fb ((v_beg own (s, 1) own.length).1, 1) := ⟨by simp only; omega, by simp only; omega⟩
 have f2 : v_fb ((v_beg own (s, 1) own.length).2, 1) := ⟨by simp only; omega, by simp only; omega⟩
 refine ⟨_, _, ?_, f1, f2, by omega, by omega⟩
 have e : t_gravity_CheckRate own (s, 1) = v_crate own (s, 1) := by unfold t_gravity_CheckRate; rw [h.err, hre]; rfl
 rw [e]
 unfold v_crate
 rw [decide_eq_false (show ¬ (v_beg own (s, 1) own.length).1 > (v_beg own (s, 1) own.length).2 by omega)]
 unfold v_span
 simp only [v_low1, f1.small, f2.small, cond_true, cond_false]
theorem l_law05_Possible (p0 : List (Int × (Int × Int))) (p1 : Int × Int) (p2 : Int × (Int × List Int)) (h : v_vok p0) (b1 : -1000 ≤ p2.1 ∧ p2.1 ≤ 1000) (b2 : -1000 ≤ p2.2.1 ∧ p2.2.1 ≤ 1000) (hw : p0.length ≤ p2.2.2.length) : OkL (st_law05_GravityPossible_0 p0 p1 p2) (sp_law05_GravityPossible_0 p0 p1 p2) (0, []) ∧ lpv false (st_law05_GravityPossible_0 p0 p1 p2) (0, []) = true := by
 have hten := h.ten
 refine for_is (fun i t => (i, t)) 0 p0.length (fun j t => t = (List.range' 0 j).map (v_own p0 p2)) (fun _ _ => true) (by omega) (by omega) ?_ ?_ _ rfl
 ·rintro t rfl
  have hd : decide ((p0.length : Int) < (p0.length : Nat)) = false := decide_eq_false (by omega)
  have hl : ((List.range' 0 p0.length).map (v_own p0 p2)).length = p0.length := by simp
  have hgk : v_gok (s_base_Whole p2.2.1).1 (s_base_Whole p2.2.1).2 := v_gok_of (by show v_fit p2.2.1; unfold v_fit; omega) (show v_fit 1 by decide)
  have no : ∀ {p : Prop}, decide ((p0.length : Int) < (p0.length : Nat)) = true → p := fun h => by rw [hd] at h; cases h
  have hkk : ∀ k, k < p0.length → ((List.range' 0 p0.length).map (v_own p0 p2)).getD k (0, (0, 0)) = v_own p0 p2 k := fun k hk => by rw [gd_map_range hk, Nat.zero_add]
  generalize (List.range' 0 p0.length).map (v_own p0 p2) = own at *
  have key : (s_ref05_VisitsErr own != 0) = false → ∃ x y, t_gravity_CheckRate own (s_base_Whole p2.2.1) = (((x, 1), (y, 1)), 0) ∧ v_fb (x, 1) ∧ v_fb (y, 1) ∧ x ≤ p2.1 ∧ p2.1 ≤ y := by
   intro he
   have hv : v_vok own := tx_visits (bne0' he)
   refine l_line hv b1 b2 fun k hk => ?_
   rw [hl] at hk
   obtain ⟨o1, o2, _, _⟩ := l_own h b1 b2 hk
   unfold v_bl v_bh
   simp only [hkk k hk, Int.mul_one]
   unfold v_own at *
   simp only at *
   omega
  refine ⟨?_, ?_⟩
  ·simp only [sp_law05_GravityPossible_0, List.forall_mem_cons]
   refine ⟨no, no, no, no, no, no, no, fun _ _ _ => hgk, fun _ he _ _ => ?_, fun _ he _ _ => ?_, by simp⟩
   ·obtain ⟨x, y, e, f1, f2, _⟩ := key he
    rw [e]; exact f1.gok
   ·obtain ⟨x, y, e, f1, f2, _⟩ := key he
    rw [e]; exact f2.gok
  ·simp only [st_law05_GravityPossible_0, hd, cond_false]
   cases he : (s_ref05_VisitsErr own != 0)
   ·obtain ⟨x, y, e, f1, f2, g1, g2⟩ := key he
    have wb : v_fb (s_base_Whole p2.1) := ⟨by show -1000000000 ≤ p2.1 ∧ p2.1 ≤ 1000000000; omega, by show (0 : Int) < 1 ∧ (1 : Int) ≤ 1000000000; omega⟩
    have o1 := v_low_one (x := (x, 1)) Int.zero_lt_one
    have o2 := v_low_one (x := (y, 1)) Int.zero_lt_one
    rw [v_low1] at o1 o2
    simp only at o1 o2
    simp only [e, o1, o2, f1.isSmall, f2.isSmall, tx_Cle f1 wb, tx_Cle wb f2, cond_false, cond_true, beq_self_eq_true]
    rw [decide_eq_true (show v_le (x, 1) (s_base_Whole p2.1) by show x * 1 ≤ p2.1 * 1; omega), decide_eq_true (show v_le (s_base_Whole p2.1) (y, 1) by show p2.1 * 1 ≤ y * 1; omega)]
    rfl
   ·rfl
 ·rintro j t _ hj rfl
  have hd : decide ((j : Int) < (p0.length : Nat)) = true := decide_eq_true (by omega)
  have hl : ((List.range' 0 j).map (v_own p0 p2)).length = j := by simp
  have no : ∀ {p : Prop}, decide ((j : Int) < (p0.length : Nat)) = false → p := fun h => by rw [hd] at h; cases h
  obtain ⟨o1, o2, o3, o4⟩ := l_own h b1 b2 hj
  have hw1 : IntKind.i64.wrap ((j : Int) - 1) = j - 1 := wrap_id (by omega) (by omega)
  have hs : (List.range' 0 (j + 1)).map (v_own p0 p2) = (List.range' 0 j).map (v_own p0 p2) ++ [v_own p0 p2 j] := by
   rw [List.range'_concat]; simp
  rw [hs]
  generalize (List.range' 0 j).map (v_own p0 p2) = own at *
  refine ⟨?_, ?_⟩
  ·simp only [sp_law05_GravityPossible_0, List.forall_mem_cons, hw1, decide_eq_true_eq]
   refine ⟨fun _ => by omega, fun _ => by omega, fun _ _ => by omega, fun _ _ => by omega, fun _ _ => by omega, fun _ _ => by omega, fun _ _ => by simp only [List.length_cons, List.length_nil]; omega, no, no, no, by simp⟩
  ·simp only [st_law05_GravityPossible_0, hd, cond_true, hw1, Int.toNat_natCast, o3, o4, wrap_nat (show (j : Int) ≤ 9223372036854775806 by omega)]
   cases (cond (decide ((j : Int) > 0)) (decide ((p0.getD j (0, (0, 0))).1.tmod 500 ≤ (own.getD ((j : Int) - 1).toNat (0, (0, 0))).1)) false)
   ·exact .inl ⟨_, rfl, rfl, trivial⟩
   ·exact .inr rfl
theorem l_law05_Possible1 (p0 : List (Int × (Int × Int))) (p1 : Int × Int) (p2 : Int × (Int × List Int)) (h : v_vok p0) (b1 : -1000 ≤ p2.1 ∧ p2.1 ≤ 1000) (b2 : -1000 ≤ p2.2.1 ∧ p2.2.1 ≤ 1000) (hw : p0.length ≤ p2.2.2.length) : OkL (st_law05_GravityPossible_1 p0 p1 p2) (sp_law05_GravityPossible_1 p0 p1 p2) (0, []) ∧ lpv false (st_law05_GravityPossible_1 p0 p1 p2) (0, []) = true := l_law05_Possible p0 p1 p2 h b1 b2 hw
theorem l_law05_Possible2 (p0 : List (Int × (Int × Int))) (p1 : Int × Int) (p2 : Int × (Int × List Int)) (h : v_vok p0) (b1 : -1000 ≤ p2.1 ∧ p2.1 ≤ 1000) (b2 : -1000 ≤ p2.2.1 ∧ p2.2.1 ≤ 1000) (hw : p0.length ≤ p2.2.2.length) : OkL (st_law05_GravityPossible_2 p0 p1 p2) (sp_law05_GravityPossible_2 p0 p1 p2) (0, []) ∧ lpv false (st_law05_GravityPossible_2 p0 p1 p2) (0, []) = true := l_law05_Possible p0 p1 p2 h b1 b2 hw
/-- The plain law. -/
theorem plain_law05_GravityPossible (p0 : List (Int × (Int × Int))) (p1 : Int × Int) (p2 : Int × (Int × List Int)) (hk : okPs P_law05_GravityPossible (p0, p1, p2)) : (∀ p ∈ pre_law05_GravityPossible p0 p1 p2, p) ∧ s_law05_GravityPossible p0 p1 p2 = true := by
 have hg : p1.2 > 0 → v_gok p1.1 p1.2 := by
  intro h
  have h2 : (IntKind.i64.min ≤ p1.1 ∧ p1.1 ≤ IntKind.i64.max) ∧ (IntKind.i64.min ≤ p1.2 ∧ p1.2 ≤ IntKind.i64.max) := hk.2.1
  have e1 : IntKind.i64.min = -9223372036854775808 := rfl
  have e2 : IntKind.i64.max = 9223372036854775807 := rfl
  rw [e1, e2] at h2
  exact ⟨h2.1, by unfold v_fit; omega, .inr (by omega)⟩
 unfold pre_law05_GravityPossible s_law05_GravityPossible
 rcases int0 (s_ref05_VisitsErr p0) with ⟨a1, a2, _⟩ | ⟨a1, a2, _⟩
 ·rcases int0 (v_rerr p1) with ⟨c1, c2, _⟩ | ⟨c1, c2, _⟩
  ·have h := tx_visits (show (v_visits p0).2 = 0 from a1)
   have hr := tx_rerr c1
   have hl : p0.length ≤ 1000000 := by have := h.ten; omega
   have hW : IntKind.i64.wrap ((p0.length : Int) - 1) = (p0.length : Int) - 1 := wrap_id (by omega) (by omega)
   have hWn : ((p0.length : Int) - 1).toNat = p0.length - 1 := by omega
   have hb3 : (cond (cond (cond (!(s_base_Within p2.1 (-1000) 1000)) true (!(s_base_Within p2.2.1 (-1000) 1000))) true (decide ((p2.2.2.length : Int) < (p0.length : Nat)))) true (decide ((p2.2.2.length : Int) > 20)) = false) → (-1000 ≤ p2.1 ∧ p2.1 ≤ 1000) ∧ (-1000 ≤ p2.2.1 ∧ p2.2.1 ≤ 1000) ∧ p0.length ≤ p2.2.2.length := by
    intro hc
    cases d1 : s_base_Within p2.1 (-1000) 1000
    ·rw [d1] at hc; cases hc
    ·cases d2 : s_base_Within p2.2.1 (-1000) 1000
     ·rw [d1, d2] at hc; cases hc
     ·cases d3 : decide ((p2.2.2.length : Int) < (p0.length : Nat))
      ·exact ⟨tx_within'.1 d1, tx_within'.1 d2, by have := of_decide_eq_false d3; omega⟩
      ·rw [d1, d2, d3] at hc; cases hc
   have hlast := fun hc => l_law05_Possible p0 p1 p2 h (hb3 hc).1 (hb3 hc).2.1 (hb3 hc).2.2
   have hlast1 := fun hc => l_law05_Possible1 p0 p1 p2 h (hb3 hc).1 (hb3 hc).2.1 (hb3 hc).2.2
   have hlast2 := fun hc => l_law05_Possible2 p0 p1 p2 h (hb3 hc).1 (hb3 hc).2.1 (hb3 hc).2.2
   clear hb3
   revert hlast hlast1 hlast2
   generalize cond (cond (cond (!(s_base_Within p2.1 (-1000) 1000)) true (!(s_base_Within p2.2.1 (-1000) 1000))) true (decide ((p2.2.2.length : Int) < (p0.length : Nat)))) true (decide ((p2.2.2.length : Int) > 20)) = LB
   intro hlast hlast1 hlast2
   have hcr := l_crate h a1 hr c1
   generalize t_gravity_CheckRate p0 p1 = CR at *
   obtain ⟨f1, f2⟩ := (v_rates_best h).fb h
   have g1 := (v_low_fb f1)
   have g2 := (v_low_fb f2)
   have p1low : v_low p1 = p1 := by
    have hgc : v_gcd p1.1 p1.2 = 1 := by
     obtain ⟨q1, _⟩ := v_first0 c1
     have := (tx_andR (tx_unless0' (by decide) q1)).2
     simpa using this
    unfold v_low
    rw [hgc, Int.ediv_one, Int.ediv_one]
   rcases l_rate h a1 with ⟨k1, k2⟩ | ⟨k1, k2⟩
   ·have o1 := v_low_one f1.d.1
    have o2 := v_low_one f2.d.1
    have o3 := g1.isSmall
    have o4 := g2.isSmall
    have o5 := tx_Cgt g1 g2
    rw [decide_eq_true ((v_le_low f1.d.1 f2.d.1).2 k1)] at o5
    have o6 := tx_Cle g1 hr.fb
    have o7 := tx_Cle hr.fb g2
    have gk1 := g1.gok
    have gk2 := g2.gok
    have i1 : v_le (v_low (v_rates p0).1) p1 ↔ v_le (v_rates p0).1 p1 := by
     have := v_le_low (x := (v_rates p0).1) (y := p1) f1.d.1 hr.d.1
     rwa [p1low] at this
    have i2 : v_le p1 (v_low (v_rates p0).2) ↔ v_le p1 (v_rates p0).2 := by
     have := v_le_low (x := p1) (y := (v_rates p0).2) hr.d.1 f2.d.1
     rwa [p1low] at this
    have e6 : decide (v_le (v_low (v_rates p0).1) p1) = decide (v_le (v_rates p0).1 p1) := decide_eq_decide.2 i1
    have e7 : decide (v_le p1 (v_low (v_rates p0).2)) = decide (v_le p1 (v_rates p0).2) := decide_eq_decide.2 i2
    rw [e6] at o6
    rw [e7] at o7
    have hin : ∃ b, cond (decide (v_le (v_rates p0).1 p1)) (decide (v_le p1 (v_rates p0).2)) false = b ∧ ((b = true ∧ (CR.2 = 0 ∨ CR.2 = 8)) ∨ (b = false ∧ CR.2 = 19)) := by
     rcases hcr with ⟨⟨q1, q2⟩, q3⟩ | ⟨q1, q2⟩
     ·exact ⟨true, by rw [decide_eq_true q1, decide_eq_true q2]; rfl, .inl ⟨rfl, q3⟩⟩
     ·refine ⟨false, ?_, .inr ⟨rfl, q2⟩⟩
      by_cases q3 : v_le (v_rates p0).1 p1
      ·rw [decide_eq_true q3, decide_eq_false (fun q4 => q1 ⟨q3, q4⟩)]; rfl
      ·rw [decide_eq_false q3]; rfl
    obtain ⟨b, hb, hb2⟩ := hin
    have htk : decide ((p0.length : Int) > 2) = true → ∃ s : (Int × Int) × (Int × Int), t_gravity_RateOf (List.take (p0.length - 1) p0) = (s, 0) ∧ s_base_IsSmall s.1 = true ∧ s_base_IsSmall s.2 = true ∧ decide (s_base_Cmp s.1 (v_low (v_rates p0).1) > 0) = false ∧ decide (s_base_Cmp s.2 (v_low (v_rates p0).2) < 0) = false := by
     intro hd
     have := of_decide_eq_true hd
     obtain ⟨s, s1, s2, s3, s4, s5⟩ := l_take h (by omega) k1
     exact ⟨s, s5, s1.isSmall, s2.isSmall, by rw [tx_Cgt s1 g1, decide_eq_true s3]; rfl, by rw [tx_Clt s2 g2, decide_eq_true s4]; rfl⟩
    have hw2 : decide ((p0.length : Int) > 2) = true → 0 ≤ (p0.length : Int) - 1 := fun hd => by have := of_decide_eq_true hd; omega

    simp only [k2, hW, hWn]
    simp only [a2, c2, o1, o2, o3, o4, o5, o6, o7, hb, List.forall_mem_cons]
    revert htk hw2
    generalize t_gravity_RateOf (List.take (p0.length - 1) p0) = RT
    generalize decide ((p0.length : Int) > 2) = D2
    intro htk hw2
    cases D2
    ·clear htk hw2
     rcases hb2 with ⟨rfl, hb2 | hb2⟩ | ⟨rfl, hb2⟩ <;> cases LB <;> simp [hb2, gk1, gk2, hl, hlast2] <;> exact hg
    ·obtain ⟨s, rfl, s1, s2, s3, s4⟩ := htk rfl
     have hw2 := hw2 rfl
     simp only [s1, s2, s3, s4]
     rcases hb2 with ⟨rfl, hb2 | hb2⟩ | ⟨rfl, hb2⟩ <;> cases LB <;> simp [hb2, gk1, gk2, hl, hlast1, hw2] <;> exact ⟨hg, by omega, by omega, by omega⟩
   ·rcases hcr with ⟨⟨q1, q2⟩, _⟩ | ⟨_, q2⟩
    ·exact absurd (v_le_trans f1.d.1 hr.d.1 f2.d.1 q1 q2) k1
    ·generalize v_gok p1.1 p1.2 = GK at *
     simp only [k2, List.forall_mem_cons]
     cases LB <;> simp [a2, a1, c1, c2, q2, hl, hlast] <;> exact hg
  ·simp only [List.forall_mem_cons]
   simp [a1, a2, c1, c2]
   exact hg
 ·simp only [List.forall_mem_cons]
  simp [a1, a2]

theorem own : ownKnob Tryd.prog.godebug = none := by kernel_rfl
theorem laidOut : laidOutB Tryd.prog = true := by kernel_rfl
theorem hfn8 : Tryd.prog.funcs[8]? = some (fnOf Tryd.prog 8) := by kernel_rfl
theorem hps8 : (fnOf Tryd.prog 8).params.size = 3 := by kernel_rfl
theorem globs (W : World) (h : laidMetH Tryd.prog Rows.gravityPossibleRow.laid W) : Glob (fun b => b < W.heap.size) W := by
 intro g cs hg
 match g, hg with
 | 0, hg =>
  have e : [.int .i64 1, .int .i64 (-2), .int .i64 1] = cs := Option.some.inj hg
  subst e
  exact glob_ints (zs := [1, -2, 1]) (k := .i64) (t := 25) (e := 3) h (by kernel_rfl) (n := "cloverleaf/gravity.second") (.head _) (by kernel_rfl) (by kernel_rfl) (by kernel_rfl) (by kernel_rfl) (by kernel_rfl)
 | _ + 1, hg => cases hg
theorem lifted_GravityPossible (os : Os) (started : os.Started) (H : Type) (enc : TypeId × Value → H) :
  ReturnsInHanded {} Tryd.checked os 8 .any (fun w args => (Rows.gravityPossibleSpec.pre enc Tryd.prog (fnOf Tryd.prog 8) Rows.gravityPossibleRow.domain false w args ∧ laidMetH Tryd.prog Rows.gravityPossibleRow.laid w) ∧ sizedMet enc Tryd.prog (fnOf Tryd.prog 8) (OpenSpec.ofChange Rows.gravityPossibleSpec) false w args)
   (Rows.gravityPossibleSpec.post enc Tryd.prog (fnOf Tryd.prog 8) false true false false) :=
 said_of_laid (C := Tryd.checked) (laid := Rows.gravityPossibleRow.laid) (ss := P_law05_GravityPossible.map shP) (by kernel_rfl) own started (by kernel_rfl) hfn8
  (ChangeSpec.witness_shaped (enc := enc) (C := Tryd.checked) (os := os) (X := fun w _ => laidMetH Tryd.prog Rows.gravityPossibleRow.laid w) false (World.laidAll Tryd.prog os Rows.gravityPossibleRow.laid) (zeroArgs P_law05_GravityPossible) 8 (World.laidAll_os _ _ _)
   (World.shaped_of_ZipB (by kernel_rfl) (by kernel_rfl)) (by kernel_rfl) (by kernel_rfl) (by kernel_rfl)
   (by rw [MakeChecks.laidMetH_plain _ _ _ (by kernel_rfl)]; exact laidMet_laidAll _ (by kernel_rfl) (by kernel_rfl))) rfl
  (fun ds h => by
   rw [hps8] at h
   match ds, h with
   | [_, _, _], _ => rfl)
  laidOut (by kernel_rfl) (rt := (fnOf Tryd.prog 8).resultTypes.getD 0 0) (by kernel_rfl) (by kernel_rfl) (by kernel_rfl)
  (law_of ok_law05_GravityPossible fun x hx => ⟨(plain_law05_GravityPossible x.1 x.2.1 x.2.2 hx).1, congrArg (fun b => V.p (.bool b)) (plain_law05_GravityPossible x.1 x.2.1 x.2.2 hx).2⟩) globs
theorem GravityPossible_holds : Rows.GravityPossibleSaid :=
 OpenClaim.holds_of_wide 8 (fnOf Tryd.prog 8) rfl rfl rfl rfl rfl rfl rfl ⟨rfl, rfl, rfl, rfl, rfl⟩ rfl rfl rfl rfl rfl (by kernel_rfl) hfn8 (by kernel_rfl)
  (of_decide_eq_true (by kernel_rfl)) (by unfold Func.isWrapper; first | (rw [if_pos (by decide +kernel)]; kernel_rfl) | (rw [if_neg (by decide +kernel)]; exact ⟨rfl, rfl⟩))
  (fun os started H enc _ => lifted_GravityPossible os started H enc)
theorem GravityPossibleCard_holds : Rows.GravityPossibleCardSaid :=
 Claim7.holds_tied_plain_at .later [] [.widerDeep] true (true, "7beca0c3d51d5b13018226e0a3ec850405335d46189a4e3e5247aa211c8b033a") false GravityPossible_holds (fun _ h => by cases h) (by kernel_rfl) (fun _ h => by cases h) gravityPossible_row_tie rfl ⟨rfl, rfl⟩ (by kernel_rfl) rfl
  (fun f fn hf hfn => by
   obtain rfl : f = 8 := Option.some.inj ((show Tryd.prog.funcNamed "cloverleaf/cloverleaflaw05.GravityPossible" = some 8 by kernel_rfl).symm.trans hf) |>.symm
   obtain rfl : fn = fnOf Tryd.prog 8 := (Option.some.inj (hfn8.symm.trans hfn)).symm
   exact ⟨by kernel_rfl, fun j t ht => by
    have hm : t ∈ (fnOf Tryd.prog 8).params.toList := by simpa using Array.mem_of_getElem? ht
    have hall : ((fnOf Tryd.prog 8).params.toList.all fun u => !Tryd.prog.wantsStandIn u) = true := by kernel_rfl
    exact (show Tryd.prog.wantsStandIn t = false by simpa using List.all_eq_true.1 hall t hm)⟩)
  (by kernel_rfl)
end Go.Proofs.YtcecdmdnfmgnfaaDoor
