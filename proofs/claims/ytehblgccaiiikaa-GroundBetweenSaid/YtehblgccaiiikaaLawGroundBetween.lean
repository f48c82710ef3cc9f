/- GroundBetween: the given statement is proved: at every input the law returns true, and the input reads as it did. No condition. -/
import Derived.Test.YtehblgccaiiikaaWalkGroundBetween
import Derived.Test.YtehblgccaiiikaaLayB
import Derived.Test.YtehblgccaiiikaaMxU
import Derived.Test.YtehblgccaiiikaaRows
import Derived.ProofKit
namespace Go.Proofs.Ytehblgccaiiikaa
open Go Go.Mx
set_option maxRecDepth 100000
theorem tx_cm_of {l : List (Int × Int)} (h : v_mok l) : v_cm l = (0, 0) := by
  unfold v_cm
  have h0 : 0 < l.length := List.length_pos_iff.2 h.ne
  have h4 := h.len
  rw [show ((l.length : Int) == 0) = false from beq_eq_false_iff_ne.2 (by omega), decide_eq_false (show ¬ (l.length : Int) > 4 by omega)]
  simp only [cond_false]
  have key : ∀ (r a : List (Int × Int)), l = a ++ r → v_scan (v_cm1 l.length) ((0, 0) : Int × Int) (a.length : Int) r = (0, 0) := by
    intro r
    induction r with
    | nil => intro a _; rfl
    | cons x r ih =>
      intro a e
      have hx := h.ok x (by rw [e]; simp)
      have hn : v_cm1 l.length (a.length : Int) x = none := by
        unfold v_cm1
        rw [tx_within.2 hx.c, tx_within.2 hx.t]
        cases c : ((a.length : Int) == (l.length : Int) - 1)
        · rfl
        · have c := beq_iff_eq.1 c
          have : r = [] := by
            rw [e] at c
            simp only [List.length_append, List.length_cons] at c
            exact List.length_eq_zero_iff.1 (by omega)
          subst this
          rw [h.last a x e]; rfl
      unfold v_scan
      rw [hn]
      have := ih (a ++ [x]) (by rw [e]; simp)
      rw [List.length_append, List.length_singleton, Int.natCast_add] at this
      exact this
  exact key l [] rfl
theorem tx_respAt {l : List (Int × Int)} {s : Int} (h : v_mok l) (hs : v_sok s) : v_respAt l s = s_ground_quotient_frac (v_frac (v_resp s l)) := by
  unfold v_respAt
  rw [tx_cm_of h, tx_within.2 hs]; rfl
/-- A response that is small, or too great. -/
structure v_rs (f : Int × Int) : Prop where
  n : 0 < f.1 ∧ f.1 ≤ 1000000000
  d : 0 < f.2 ∧ f.2 ≤ 1000000000
  g : v_gcd f.1 f.2 = 1
theorem tx_frac {l : List (Int × Int)} {s : Int} (h : v_mok l) (hs : v_sok s) : (s_ground_quotient_frac (v_frac (v_resp s l)) = (v_frac (v_resp s l), 0) ∧ v_rs (v_frac (v_resp s l))) ∨ s_ground_quotient_frac (v_frac (v_resp s l)) = ((0, 0), 8) := by
  have hp := v_resp_small hs h
  have hg := v_frac_gcd (v_resp s l)
  unfold s_ground_quotient_frac
  generalize v_frac (v_resp s l) = f at *
  rcases dec0 (a := 1000000000) (b := f.1) with ⟨_, _, _, _, e1⟩ | ⟨h1, _, _, _, e1⟩ <;> rcases dec0 (a := 1000000000) (b := f.2) with ⟨_, _, _, _, e2⟩ | ⟨h2, _, _, _, e2⟩ <;> rw [e1, e2]
  · exact .inr rfl
  · exact .inr rfl
  · exact .inr rfl
  · exact .inl ⟨rfl, ⟨by omega, by omega, hg⟩⟩
theorem v_rs.low {f : Int × Int} (h : v_rs f) : t_base_IsLowest f = true := by
  unfold t_base_IsLowest
  rw [decide_eq_true h.d.1, h.g]; rfl
theorem v_rs.small {f : Int × Int} (h : v_rs f) : s_base_IsSmall f = true := by
  unfold s_base_IsSmall
  rw [tx_within.2 (by have := h.n; omega), tx_within.2 (by have := h.d; omega)]; rfl
theorem v_rs.gok {f : Int × Int} (h : v_rs f) : v_gok f.1 f.2 := v_gok_of (by have := h.n; unfold v_fit; omega) (by have := h.d; unfold v_fit; omega)
theorem v_rs.cmp {f g : Int × Int} (hf : v_rs f) (hg : v_rs g) : s_base_Cmp f g = v_cmp (f.1 * g.2) (g.1 * f.2) := by
  unfold s_base_Cmp v_cmp
  have m1 := mul_in (Int.le_of_lt hf.n.1) hf.n.2 (Int.le_of_lt hg.d.1) hg.d.2
  have m2 := mul_in (Int.le_of_lt hg.n.1) hg.n.2 (Int.le_of_lt hf.d.1) hf.d.2
  rw [wrap_id (n := f.1 * g.2) (by omega) (by omega), wrap_id (n := g.1 * f.2) (by omega) (by omega)]
theorem v_rs.cmple {p q : Rat} (hp : v_rs (v_frac p)) (hq : v_rs (v_frac q)) (h : p ≤ q) : decide (s_base_Cmp (v_frac q) (v_frac p) < 0) = false ∧ decide (s_base_Cmp (v_frac p) (v_frac q) ≤ 0) = true := by
  have := v_rle_frac.1 h
  constructor
  · rw [hq.cmp hp]
    refine decide_eq_false fun h => ?_
    have := v_cmp_lt.1 h
    omega
  · rw [hp.cmp hq]
    refine decide_eq_true ?_
    rcases Int.lt_or_le 0 (v_cmp ((v_frac p).1 * (v_frac q).2) ((v_frac q).1 * (v_frac p).2)) with h | h
    · have := v_cmp_gt.1 h; omega
    · exact h

theorem v_above_get {l r : List (Int × Int)} (h : v_above l r) : l.length = r.length ∧ ∀ k, (l.getD k (0, 0)).2 = (r.getD k (0, 0)).2 ∧ (l.getD k (0, 0)).1 ≤ (r.getD k (0, 0)).1 := by
  induction h with
  | nil => exact ⟨rfl, fun k => ⟨rfl, Int.le_refl _⟩⟩
  | cons h1 h2 h ih =>
    refine ⟨by simp [ih.1], fun k => ?_⟩
    cases k with
    | zero => exact ⟨h2, h1⟩
    | succ k => exact ih.2 k
theorem v_mok_between {l m r : List (Int × Int)} (hl : v_mok l) (hr : v_mok r) (h1 : v_above l m) (h2 : v_above m r) : v_mok m := by
  obtain ⟨e1, g1⟩ := v_above_get h1
  obtain ⟨e2, g2⟩ := v_above_get h2
  refine ⟨fun e => hl.ne (List.length_eq_zero_iff.1 (by rw [e1, e]; rfl)), by have := hl.len; omega, fun x hx => ?_, fun a x e => ?_⟩
  · obtain ⟨k, hk, rfl⟩ := List.getElem_of_mem hx
    rw [← gd_get (0, 0) hk]
    have hx1 := hl.ok _ (getD_mem' (0, 0) (show k < l.length by omega))
    have hx2 := hr.ok _ (getD_mem' (0, 0) (show k < r.length by omega))
    have a1 := g1 k
    have a2 := g2 k
    have b1 := hx1.c
    have b2 := hx2.c
    have b3 := hx1.t
    exact ⟨by omega, by omega⟩
  · have hlen : m.length = a.length + 1 := by rw [e]; simp
    have hlast : l = l.take a.length ++ [l.getD a.length (0, 0)] := by
      have := List.take_append_drop a.length l
      rw [drop_getD (0, 0) (by omega), List.drop_eq_nil_of_le (by omega)] at this
      exact this.symm
    have h3 := hl.last _ _ hlast
    have h4 : m.getD a.length (0, 0) = x := by rw [e]; simp
    have := (g1 a.length).1
    rw [h4] at this
    omega
theorem v_below_mono {p q : Rat} {d : Int × Int × Int} (h : p ≤ q) (hb : v_below (v_frac q) d = true) : v_below (v_frac p) d = true := by
  have h := v_rle_frac.1 h
  have hp := v_frac_pos p
  have hq := v_frac_pos q
  unfold v_below at *
  have hb := of_decide_eq_true hb
  refine decide_eq_true ?_
  generalize (v_frac p).1 = n at *
  generalize (v_frac p).2 = e at *
  generalize (v_frac q).1 = n' at *
  generalize (v_frac q).2 = e' at *
  have m1 := Int.mul_lt_mul_of_pos_right hb hp
  refine Int.lt_of_mul_lt_mul_right (a := e') ?_ (Int.le_of_lt hq)
  have e1 : 1000 * n * e' = 1000 * (n * e') := by rw [Int.mul_assoc]
  have e2 : 1000 * n' * e = 1000 * (n' * e) := by rw [Int.mul_assoc]
  have e3 : d.2.1 * e * e' = d.2.1 * e' * e := by rw [Int.mul_assoc, Int.mul_comm e, ← Int.mul_assoc]
  rw [e1, e3]
  rw [e2] at m1
  omega
theorem v_beyond_mono {p q : Rat} {d : Int × Int × Int} (h : p ≤ q) (hb : v_beyond (v_frac p) d = true) : v_beyond (v_frac q) d = true := by
  have h := v_rle_frac.1 h
  have hp := v_frac_pos p
  have hq := v_frac_pos q
  unfold v_beyond at *
  have hb := of_decide_eq_true hb
  refine decide_eq_true ?_
  generalize (v_frac p).1 = n at *
  generalize (v_frac p).2 = e at *
  generalize (v_frac q).1 = n' at *
  generalize (v_frac q).2 = e' at *
  have m1 := Int.mul_lt_mul_of_pos_right hb hq
  refine Int.lt_of_mul_lt_mul_right (a := e) ?_ (Int.le_of_lt hp)
  have e1 : 1000 * n * e' = 1000 * (n * e') := by rw [Int.mul_assoc]
  have e2 : 1000 * n' * e = 1000 * (n' * e) := by rw [Int.mul_assoc]
  have e3 : d.2.2 * e * e' = d.2.2 * e' * e := by rw [Int.mul_assoc, Int.mul_comm e, ← Int.mul_assoc]
  rw [e2, ← e3]
  rw [e1] at m1
  omega

set_option maxHeartbeats 4000000 in
/-- The plain law. -/
theorem plain_law04_GroundBetween (p0 p1 : List (Int × Int)) (p2 : List Int × (Int × Int × Int)) (_ : okPs P_law04_GroundBetween (p0, p1, p2)) : (∀ p ∈ pre_law04_GroundBetween p0 p1 p2, p) ∧ s_law04_GroundBetween p0 p1 p2 = true := by
  have hG : (cond (cond (cond (cond (!(decide ((p0.length : Int) ≤ 6))) true (!(decide ((p1.length : Int) ≤ 6)))) true (v_bo p0 p1 != 0)) true ((v_cd [p2.2]).2 != 0)) true (decide ((p2.1.length : Int) > 10))) = false → v_bo p0 p1 = 0 ∧ (v_cd [p2.2]).2 = 0 ∧ p2.1.length ≤ 10 := by
    intro h
    cases c1 : cond (!(decide ((p0.length : Int) ≤ 6))) true (!(decide ((p1.length : Int) ≤ 6))) <;> rw [c1] at h
    · rcases int0 (v_bo p0 p1) with ⟨z, e, _⟩ | ⟨z, e, _⟩ <;> rw [e] at h
      · rcases int0 (v_cd [p2.2]).2 with ⟨z', e, _⟩ | ⟨z', e, _⟩ <;> rw [e] at h
        · exact ⟨z, z', by have := of_decide_eq_false h; omega⟩
        · cases h
      · cases h
    · cases h
  unfold pre_law04_GroundBetween s_law04_GroundBetween
  simp only [List.forall_mem_cons, List.nil_append, List.length_nil]
  generalize (cond (cond (cond (cond (!(decide ((p0.length : Int) ≤ 6))) true (!(decide ((p1.length : Int) ≤ 6)))) true (v_bo p0 p1 != 0)) true ((v_cd [p2.2]).2 != 0)) true (decide ((p2.1.length : Int) > 10))) = G at *
  cases G
  rotate_left
  · simp
  obtain ⟨hbo, hcd, hl10⟩ := hG rfl
  obtain ⟨hm0, hm1, hab⟩ := tx_bo hbo
  have hdk := (tx_cd_ok hcd).1.ok _ (List.mem_singleton.2 rfl)
  have hs := hdk.s
  have hlen := hm0.len
  have hlen1 := hm1.len
  obtain ⟨hl01, hg01⟩ := v_above_get hab
  simp only [cond_false, forall_const]
  suffices hL : OkL (st_law04_GroundBetween_0 p0 p1 p2) (sp_law04_GroundBetween_0 p0 p1 p2) (0, p0) ∧ lpv false (st_law04_GroundBetween_0 p0 p1 p2) (0, p0) = true by
    exact ⟨⟨by omega, hL.1, by simp⟩, hL.2⟩
  refine for_is (dd := false) (st := st_law04_GroundBetween_0 p0 p1 p2) (sp := sp_law04_GroundBetween_0 p0 p1 p2) (fun i (t : List (Int × Int)) => (i, t)) 0 (min p0.length p2.1.length)
    (fun j t => (t.length = p0.length ∧ ∀ k, k < p0.length → (t.getD k (0, 0)).2 = (p0.getD k (0, 0)).2 ∧ (p0.getD k (0, 0)).1 ≤ (t.getD k (0, 0)).1 ∧ (t.getD k (0, 0)).1 ≤ (p1.getD k (0, 0)).1)) (fun _ _ => true) (by omega) (by omega) ?_ ?_ _ ⟨rfl, fun k _ => ⟨rfl, Int.le_refl _, (hg01 k).2⟩⟩
  · -- the end
    rintro m ⟨h1, h2⟩
    have hd : (cond (decide (((min p0.length p2.1.length : Nat) : Int) < (m.length : Int))) (decide (((min p0.length p2.1.length : Nat) : Int) < (p2.1.length : Int))) false) = false := by
      rcases Nat.le_total p0.length p2.1.length with h | h
      · rw [Nat.min_eq_left h, decide_eq_false (by omega)]; rfl
      · rw [Nat.min_eq_right h, decide_eq_false (show ¬ (p2.1.length : Int) < p2.1.length by omega)]; cases decide ((p2.1.length : Int) < (m.length : Int)) <;> rfl
    have a1 : v_above p0 m := v_above_of _ _ h1.symm fun k hk => ⟨(h2 k hk).1.symm, (h2 k hk).2.1⟩
    have a2 : v_above m p1 := v_above_of _ _ (by omega) fun k hk => ⟨by have := h2 k (by omega); have := hg01 k; omega, (h2 k (by omega)).2.2⟩
    have hm := v_mok_between hm0 hm1 a1 a2
    have q1 := v_resp_mono (s := p2.2.1) (by omega) a1 hm0.ok hm.ok
    have q2 := v_resp_mono (s := p2.2.1) (by omega) a2 hm.ok hm1.ok
    have hans : v_ans p0 p1 p2.2 = (v_answer (v_frac (v_resp p2.2.1 p0)) (v_frac (v_resp p2.2.1 p1)) p2.2, 0) := by unfold v_ans; rw [hbo, hcd]; rfl
    have hexp : v_expls m [p2.2] = (v_ex m p2.2, 0) := by unfold v_expls; rw [tx_cm_of hm, hcd]; simp [v_exAll]
    have hyes : v_answer (v_frac (v_resp p2.2.1 p0)) (v_frac (v_resp p2.2.1 p1)) p2.2 = 2 → v_ex m p2.2 = true := by
      unfold v_answer v_ex
      have b1 := v_below_mono (d := p2.2) q1
      have b2 := v_beyond_mono (d := p2.2) q2
      cases c1 : v_below (v_frac (v_resp p2.2.1 p1)) p2.2 <;> cases c2 : v_beyond (v_frac (v_resp p2.2.1 p0)) p2.2 <;> cases c3 : v_below (v_frac (v_resp p2.2.1 p0)) p2.2 <;> cases c4 : v_beyond (v_frac (v_resp p2.2.1 p1)) p2.2 <;> cases c5 : v_below (v_frac (v_resp p2.2.1 m)) p2.2 <;> cases c6 : v_beyond (v_frac (v_resp p2.2.1 m)) p2.2 <;> simp_all
    have hno : v_answer (v_frac (v_resp p2.2.1 p0)) (v_frac (v_resp p2.2.1 p1)) p2.2 = 0 → v_ex m p2.2 = false := by
      unfold v_answer v_ex
      have b1 := v_below_mono (d := p2.2) q2
      have b2 := v_beyond_mono (d := p2.2) q1
      cases c1 : v_below (v_frac (v_resp p2.2.1 p1)) p2.2 <;> cases c2 : v_beyond (v_frac (v_resp p2.2.1 p0)) p2.2 <;> cases c3 : v_below (v_frac (v_resp p2.2.1 p0)) p2.2 <;> cases c4 : v_beyond (v_frac (v_resp p2.2.1 p1)) p2.2 <;> cases c5 : v_below (v_frac (v_resp p2.2.1 m)) p2.2 <;> cases c6 : v_beyond (v_frac (v_resp p2.2.1 m)) p2.2 <;> simp_all
    have henc : v_encl p0 p1 p2.2.1 = (cond ((s_ground_quotient_frac (v_frac (v_resp p2.2.1 p0))).2 != 0) (((0, 0), (0, 0)), (s_ground_quotient_frac (v_frac (v_resp p2.2.1 p0))).2) (cond ((s_ground_quotient_frac (v_frac (v_resp p2.2.1 p1))).2 != 0) (((0, 0), (0, 0)), (s_ground_quotient_frac (v_frac (v_resp p2.2.1 p1))).2) (((s_ground_quotient_frac (v_frac (v_resp p2.2.1 p0))).1, (s_ground_quotient_frac (v_frac (v_resp p2.2.1 p1))).1), 0))) := by
      unfold v_encl; rw [hbo, tx_within.2 hs]; rfl
    have hmlen : m.length ≤ 4 := by omega
    generalize v_answer (v_frac (v_resp p2.2.1 p0)) (v_frac (v_resp p2.2.1 p1)) p2.2 = A at *
    have hA : ((A == 2) = true → v_ex m p2.2 = true) ∧ ((A == 0) = true → v_ex m p2.2 = false) := ⟨fun h => hyes (by simpa using h), fun h => hno (by simpa using h)⟩
    generalize v_ex m p2.2 = X at *
    simp only [sp_law04_GroundBetween_0, st_law04_GroundBetween_0, List.nil_append, hd, cond_false, List.forall_mem_cons, hans, hexp, tx_respAt hm hs, henc]
    have hc : (cond (cond (cond (((0 : Int) != 0)) true ((0 : Int) != 0)) true (cond (A == 2) (!X) false)) true (cond (A == 0) X false)) = false := by
      cases c2 : (A == 2) <;> cases c0 : (A == 0) <;> cases X <;> simp_all
    rw [hc]
    have hc3 : (cond (cond (((0 : Int) != 0)) true ((0 : Int) != 0)) true (cond (A == 2) (!X) false)) = false := by
      cases c2 : (A == 2) <;> cases X <;> simp_all
    rw [hc3]
    rcases tx_frac hm0 hs with ⟨e0, r0⟩ | e0 <;> rcases tx_frac hm1 hs with ⟨e1, r1⟩ | e1 <;> rcases tx_frac hm hs with ⟨em, rm⟩ | em <;> simp only [e0, e1, em, show ((0 : Int) != 0) = false from rfl, show ((8 : Int) != 0) = true from rfl, show ((8 : Int) == 0) = false from rfl, show ((8 : Int) == 8) = true from rfl, show ((0 : Int) == 0) = true from rfl, cond_true, cond_false]
    · have c1 := (r0.cmple rm q1).2
      have c2 := (rm.cmple r1 q2).2
      have g0 := r0.gok
      have g1 := r1.gok
      have gm := rm.gok
      simp only [r0.low, r0.small, r1.low, r1.small, rm.low, rm.small, c1, c2]
      refine ⟨?_, rfl⟩
      and_intros
      all_goals first | (intro p hp; cases hp; done) | (intros; first | rfl | assumption | contradiction | (simp; omega) | (simp; done) | omega)
    all_goals
      refine ⟨?_, by first | rfl | trivial⟩
      and_intros
      all_goals first | (intro p hp; cases hp; done) | (intros; first | rfl | assumption | contradiction | (simp; omega) | (simp; done) | omega)
  · -- a round
    rintro j m _ hj ⟨h1, h2⟩
    have hj0 : j < p0.length := by omega
    have hj1 : j < p2.1.length := by omega
    have hd : (cond (decide ((j : Int) < (m.length : Int))) (decide ((j : Int) < (p2.1.length : Int))) false) = true := by
      rw [decide_eq_true (show (j : Int) < m.length by omega), decide_eq_true (show (j : Int) < p2.1.length by omega)]; rfl
    have x0 := (hm0.ok _ (getD_mem' (0, 0) hj0)).c
    have x1 := (hm1.ok _ (getD_mem' (0, 0) (show j < p1.length by omega))).c
    have h01 := (hg01 j).2
    have w1 : IntKind.i64.wrap (IntKind.i64.wrap ((p1.getD j (0, 0)).1 - (p0.getD j (0, 0)).1) + 1) = (p1.getD j (0, 0)).1 - (p0.getD j (0, 0)).1 + 1 := by rw [w_add_l]; exact wrap_id (by omega) (by omega)
    have hm0' := Int.emod_nonneg (p2.1.getD j 0) (show (p1.getD j (0, 0)).1 - (p0.getD j (0, 0)).1 + 1 ≠ 0 by omega)
    have hm1' := Int.emod_lt_of_pos (p2.1.getD j 0) (show 0 < (p1.getD j (0, 0)).1 - (p0.getD j (0, 0)).1 + 1 by omega)
    have w2 : IntKind.i64.wrap ((p0.getD j (0, 0)).1 + p2.1.getD j 0 % ((p1.getD j (0, 0)).1 - (p0.getD j (0, 0)).1 + 1)) = (p0.getD j (0, 0)).1 + p2.1.getD j 0 % ((p1.getD j (0, 0)).1 - (p0.getD j (0, 0)).1 + 1) := wrap_id (by omega) (by omega)
    refine ⟨?_, .inl ⟨m.set j ((p0.getD j (0, 0)).1 + p2.1.getD j 0 % ((p1.getD j (0, 0)).1 - (p0.getD j (0, 0)).1 + 1), (m.getD j (0, 0)).2), ?_, ⟨by rw [List.length_set]; exact h1, fun k hk => ?_⟩, rfl⟩⟩
    · simp only [sp_law04_GroundBetween_0, hd, List.forall_mem_cons, Int.toNat_natCast, w1]
      and_intros
      all_goals first | (intro p hp; cases hp; done) | (intros; first | omega | contradiction)
    · simp only [st_law04_GroundBetween_0, hd, cond_true, Int.toNat_natCast, w1, w2]
      rw [wrap_nat (by omega)]
    · rw [gd_set (by omega)]
      have := h2 k hk
      split
      · rename_i e; subst e; simp only; omega
      · exact this

theorem own : ownKnob Try.prog.godebug = none := by kernel_rfl
theorem laidOut : laidOutB Try.prog = true := by kernel_rfl
theorem hfn7 : Try.prog.funcs[7]? = some (fnOf Try.prog 7) := by kernel_rfl
theorem hps7 : (fnOf Try.prog 7).params.size = 3 := by kernel_rfl
theorem lifted_GroundBetween (os : Os) (started : os.Started) (H : Type) (enc : TypeId × Value → H) :
    ReturnsInHanded {} Try.checked os 7 .any (Rows.groundBetweenSpec.pre6 enc Try.prog (fnOf Try.prog 7) [] false) (Rows.groundBetweenSpec.post enc Try.prog (fnOf Try.prog 7) false true false false) :=
  said_of (C := Try.checked) (ss := P_law04_GroundBetween.map shP) own started (by kernel_rfl) hfn7
    (ChangeSpec.witness6 (enc := enc) (C := Try.checked) false ⟨#[], zeroArgs P_law04_GroundBetween, []⟩ 8 (by kernel_rfl) (by kernel_rfl) (by kernel_rfl) (by kernel_rfl)) rfl
    (fun ds h => by
      rw [hps7] at h
      match ds, h with
      | [_, _, _], _ => rfl)
    laidOut (by kernel_rfl) (rt := (fnOf Try.prog 7).resultTypes.getD 0 0) (by kernel_rfl) (by kernel_rfl) (by kernel_rfl)
    (law_of ok_law04_GroundBetween fun x hx => ⟨(plain_law04_GroundBetween x.1 x.2.1 x.2.2 hx).1, congrArg (fun b => V.p (.bool b)) (plain_law04_GroundBetween x.1 x.2.1 x.2.2 hx).2⟩) (fun _ => rfl)
theorem GroundBetween_holds : Rows.GroundBetweenSaid :=
  OpenClaim.holds_of_wide 7 (fnOf Try.prog 7) rfl rfl rfl rfl rfl rfl rfl ⟨rfl, rfl, rfl, rfl, rfl⟩ rfl rfl rfl rfl rfl (by kernel_rfl) hfn7 (by kernel_rfl)
    (of_decide_eq_true (by kernel_rfl)) (by unfold Func.isWrapper; first | (rw [if_pos (by decide +kernel)]; kernel_rfl) | (rw [if_neg (by decide +kernel)]; exact ⟨rfl, rfl⟩))
    (fun os started H enc _ => lifted_GroundBetween os started H enc)
end Go.Proofs.Ytehblgccaiiikaa
