/- GravityWithin: the given statement is proved: at every input the law returns true, and the input reads as it did. No condition. -/
import Derived.Test.YtcecdmdnfmgnfaaDoorWalkGravityWithin
import Derived.Test.YtcecdmdnfmgnfaaDoorLayB
import Derived.Test.YtcecdmdnfmgnfaaDoorMxUl
import Derived.Test.YtcecdmdnfmgnfaaDoorRows
import Derived.Test.YtcecdmdnfmgnfaaDoorCards
import Derived.Test.YtcecdmdnfmgnfaaDoorTie
import Derived.ProofKit
import Derived.SevenTiedAt
namespace Go.Proofs.YtcecdmdnfmgnfaaDoor
open Go Go.Mx
set_option maxRecDepth 100000
theorem v_scan_all {α ρ : Type} {f : Int → α → Option ρ} {e : ρ} : ∀ (l : List α) (i : Int), (∀ k, (h : k < l.length) → f (i + k) l[k] = none) → v_scan f e i l = e
  | [], _, _ => rfl
  | x :: r, i, h => by
    unfold v_scan
    have h0 := h 0 (by simp)
    simp only [Int.natCast_zero, Int.add_zero, List.getElem_cons_zero] at h0
    rw [h0]
    refine v_scan_all r (i + 1) fun k hk => ?_
    have := h (k + 1) (by simpa using hk)
    rw [List.getElem_cons_succ] at this
    rw [show i + 1 + (k : Int) = i + ((k + 1 : Nat) : Int) by omega]; exact this
theorem v_hok.err {p0 : List (Int × Int)} (h : v_hok p0) : (v_heights p0).2 = 0 := by
  have hl := h.len
  unfold v_heights
  rw [decide_eq_false (show ¬ (p0.length : Int) > 64 by omega), cond_false, v_scan_all]
  intro k hk
  have ha := h.all _ (List.getElem_mem hk)
  have : s_gravity_rangeErr p0[k] 1000000 = 0 := by
    unfold s_gravity_rangeErr s_gravity_isSized
    rw [show IntKind.i64.wrap (0 - 1000000) = -1000000 from rfl, tx_within.2 ha.1, tx_within.2 ha.2.1, decide_eq_true ha.2.2]; rfl
  rw [this]; rfl
/-- A number within a range. -/
def v_ex (p0 : List (Int × Int)) (p1 : List Int) (k : Nat) : Int := (p0.getD k (0, 0)).1 + p1.getD k 0 % ((p0.getD k (0, 0)).2 - (p0.getD k (0, 0)).1 + 1)
def v_E (p0 : List (Int × Int)) (p1 : List Int) (n : Nat) : List Int := (List.range' 0 n).map (v_ex p0 p1)
def v_PT (p0 : List (Int × Int)) (p1 : List Int) (n : Nat) : List (Int × Int) := (List.range' 0 n).map fun k => (v_ex p0 p1 k, v_ex p0 p1 k)
/-- What the law is about. -/
structure v_win (p0 : List (Int × Int)) (p1 : List Int) (p2 : List Int × Int) : Prop where
  hok : v_hok p0
  three : 3 ≤ p0.length
  len : p1.length = p0.length
  fok : v_fok p2.1
  sc : 0 ≤ p2.2 ∧ p2.2 ≤ 1000
theorem v_hok.at {p0 : List (Int × Int)} (h : v_hok p0) {k : Nat} (hk : k < p0.length) : (-1000000 ≤ (p0.getD k (0, 0)).1 ∧ (p0.getD k (0, 0)).1 ≤ 1000000) ∧ (-1000000 ≤ (p0.getD k (0, 0)).2 ∧ (p0.getD k (0, 0)).2 ≤ 1000000) ∧ (p0.getD k (0, 0)).1 ≤ (p0.getD k (0, 0)).2 := h.all _ (getD_mem' _ hk)
theorem v_ex_in {p0 : List (Int × Int)} {p1 : List Int} (h : v_hok p0) {k : Nat} (hk : k < p0.length) : (p0.getD k (0, 0)).1 ≤ v_ex p0 p1 k ∧ v_ex p0 p1 k ≤ (p0.getD k (0, 0)).2 := by
  have ha := h.at hk
  have h1 := Int.emod_nonneg (p1.getD k 0) (show (p0.getD k (0, 0)).2 - (p0.getD k (0, 0)).1 + 1 ≠ 0 by omega)
  have h2 := Int.emod_lt_of_pos (p1.getD k 0) (show 0 < (p0.getD k (0, 0)).2 - (p0.getD k (0, 0)).1 + 1 by omega)
  unfold v_ex; omega
theorem v_E_len {p0 : List (Int × Int)} {p1 : List Int} {n : Nat} : (v_E p0 p1 n).length = n := by simp [v_E]
theorem v_PT_len {p0 : List (Int × Int)} {p1 : List Int} {n : Nat} : (v_PT p0 p1 n).length = n := by simp [v_PT]
theorem v_E_get {p0 : List (Int × Int)} {p1 : List Int} {n k : Nat} (h : k < n) : (v_E p0 p1 n).getD k 0 = v_ex p0 p1 k := by unfold v_E; rw [gd_map_range h, Nat.zero_add]
theorem v_PT_get {p0 : List (Int × Int)} {p1 : List Int} {n k : Nat} (h : k < n) : (v_PT p0 p1 n).getD k (0, 0) = (v_ex p0 p1 k, v_ex p0 p1 k) := by unfold v_PT; rw [gd_map_range h, Nat.zero_add]
theorem v_PT_hok {p0 : List (Int × Int)} {p1 : List Int} (h : v_hok p0) : v_hok (v_PT p0 p1 p0.length) := by
  refine ⟨by rw [v_PT_len]; exact h.len, fun x hx => ?_⟩
  unfold v_PT at hx
  obtain ⟨k, hk, rfl⟩ := List.mem_map.1 hx
  rw [List.mem_range'_1] at hk
  have := v_ex_in (p1 := p1) h (k := k) (by omega)
  have := h.at (k := k) (by omega)
  simp only; omega
/-- Products added up. -/
def v_dot : List Int → List Int → Int
  | w :: ws, x :: xs => w * x + v_dot ws xs
  | _, _ => 0
theorem v_dot_sums : ∀ (ws xs : List Int), ws.length ≤ xs.length → v_dot ws xs = v_sums (fun i => ws.getD i 0 * xs.getD i 0) 0 ws.length
  | [], _, _ => by simp [v_dot, v_sums]
  | w :: ws, [], h => by simp at h
  | w :: ws, x :: xs, h => by
    rw [v_dot, v_dot_sums ws xs (by simpa using h), List.length_cons, v_sums, v_sums_shift]
    rfl
/-- Numbers within ranges are weighed to within the ranges' sum. -/
theorem v_lin_dot : ∀ (ws : List Int) (xs : List (Int × Int)) (es : List Int), es.length = xs.length → (∀ k, k < xs.length → (xs.getD k (0, 0)).1 ≤ es.getD k 0 ∧ es.getD k 0 ≤ (xs.getD k (0, 0)).2) → (v_lin ws xs).1 ≤ v_dot ws es ∧ v_dot ws es ≤ (v_lin ws xs).2
  | [], _, _, _, _ => by simp [v_lin, v_dot]
  | w :: ws, [], es, h, _ => by
    have : es = [] := List.eq_nil_of_length_eq_zero (by simpa using h)
    subst this; simp [v_lin, v_dot]
  | w :: ws, x :: xs, [], h, _ => by simp at h
  | w :: ws, x :: xs, e :: es, h, hk => by
    have h0 := hk 0 (by simp)
    have ih := v_lin_dot ws xs es (by simpa using h) (fun k hk' => by have := hk (k + 1) (by simpa using hk'); simpa using this)
    have h0 : x.1 ≤ e ∧ e ≤ x.2 := by simpa using h0
    simp only [v_lin, v_dot]
    rcases Int.le_total 0 w with c | c
    · have a := Int.mul_le_mul_of_nonneg_left h0.1 c
      have b := Int.mul_le_mul_of_nonneg_left h0.2 c
      omega
    · have a := Int.mul_le_mul_of_nonpos_left c h0.1
      have b := Int.mul_le_mul_of_nonpos_left c h0.2
      omega
theorem v_lin_pt : ∀ (ws : List Int) (es : List Int), v_lin ws (es.map fun e => (e, e)) = (v_dot ws es, v_dot ws es)
  | [], _ => by simp [v_lin, v_dot]
  | w :: ws, [] => by simp [v_lin, v_dot]
  | w :: ws, e :: es => by
    simp only [List.map_cons, v_lin, v_dot, v_lin_pt ws es]
    rw [Int.min_self, Int.max_self]
theorem v_fil_len (f : List Int) (l : List (Int × Int)) : (v_fil f l).length = (max 0 ((l.length : Int) - ((v_both f).length : Nat) + 1)).toNat := by simp [v_fil, v_windows]
theorem v_fil_get {f : List Int} {l : List (Int × Int)} {j : Nat} (h : j < (v_fil f l).length) : (v_fil f l).getD j (0, 0) = ((v_lin (v_both f) ((l.drop j).take (v_both f).length)).1 / v_fsum f, v_ceil (v_lin (v_both f) ((l.drop j).take (v_both f).length)).2 (v_fsum f)) := by
  rw [v_fil_len] at h
  unfold v_fil v_windows
  rw [List.map_map, gd_map 0 (by simpa using h)]
  rw [show (List.range (max 0 ((l.length : Int) - ((v_both f).length : Nat) + 1)).toNat).getD j 0 = j by rw [List.range_eq_range', gd_range h, Nat.zero_add]]
  rfl
/-- The exact sum at a place. -/
def v_tot (p0 : List (Int × Int)) (p1 : List Int) (f : List Int) (j : Nat) : Int := v_sums (fun i => v_at f ((i : Int) - ((f.length : Int) - 1)) * v_ex p0 p1 (j + i)) 0 (2 * f.length - 1)
theorem v_tot_dot {p0 : List (Int × Int)} {p1 f : List Int} (h1 : 1 ≤ f.length) {j : Nat} (hj : j + (2 * f.length - 1) ≤ p0.length) : v_dot (v_both f) (((v_E p0 p1 p0.length).drop j).take (v_both f).length) = v_tot p0 p1 f j := by
  have hb := v_both_len h1
  rw [v_dot_sums _ _ (by rw [List.length_take, List.length_drop, v_E_len]; omega), hb]
  unfold v_tot
  refine v_sums_congr _ _ fun i _ hi => ?_
  rw [v_both_at (by omega), gd_take (by omega), gd_drop, v_E_get (by omega)]
theorem v_take_pt {p0 : List (Int × Int)} {p1 : List Int} {j c : Nat} : ((v_PT p0 p1 p0.length).drop j).take c = (((v_E p0 p1 p0.length).drop j).take c).map fun e => (e, e) := by
  rw [List.map_take, List.map_drop]
  unfold v_PT v_E
  rw [List.map_map]; rfl
theorem v_tot_in {p0 : List (Int × Int)} {p1 f : List Int} (h : v_hok p0) (hf : v_fw f) {j : Nat} (n : Nat) (hj : j + n ≤ p0.length) : -(n * 100000000000) ≤ v_sums (fun i => v_at f ((i : Int) - ((f.length : Int) - 1)) * v_ex p0 p1 (j + i)) 0 n ∧ v_sums (fun i => v_at f ((i : Int) - ((f.length : Int) - 1)) * v_ex p0 p1 (j + i)) 0 n ≤ n * 100000000000 := by
  refine v_sums_in n 0 fun k _ hk => ?_
  have a := hf.at ((k : Int) - ((f.length : Int) - 1))
  have b := v_ex_in (p1 := p1) h (k := j + k) (by omega)
  have c := h.at (k := j + k) (by omega)
  have := mul_abs a.1 a.2 (show -1000000 ≤ v_ex p0 p1 (j + k) by omega) (show v_ex p0 p1 (j + k) ≤ 1000000 by omega)
  omega
/-- What the filtered points are, and that they lie within the filtered ranges. -/
theorem v_fil_pt {p0 : List (Int × Int)} {p1 f : List Int} (h : v_hok p0) (hf : v_fok f) {j : Nat} (hj : j < (v_fil f p0).length) : (v_fil f (v_PT p0 p1 p0.length)).getD j (0, 0) = (v_tot p0 p1 f j / v_fsum f, v_ceil (v_tot p0 p1 f j) (v_fsum f)) ∧ ((v_fil f p0).getD j (0, 0)).1 ≤ v_tot p0 p1 f j / v_fsum f ∧ v_ceil (v_tot p0 p1 f j) (v_fsum f) ≤ ((v_fil f p0).getD j (0, 0)).2 := by
  have h1 := hf.one
  have hb := v_both_len h1
  have hj' := hj
  rw [v_fil_len] at hj'
  have hjl : j + (2 * f.length - 1) ≤ p0.length := by omega
  have ht := v_tot_dot (p0 := p0) (p1 := p1) h1 hjl
  refine ⟨?_, ?_⟩
  · rw [v_fil_get (by rw [v_fil_len, v_PT_len]; omega), v_take_pt, v_lin_pt, ht]
  · have := v_lin_dot (v_both f) ((p0.drop j).take (v_both f).length) (((v_E p0 p1 p0.length).drop j).take (v_both f).length) (by rw [List.length_take, List.length_drop, List.length_take, List.length_drop, v_E_len]) (fun k hk => by
      rw [List.length_take, List.length_drop] at hk
      rw [gd_take (by omega), gd_drop, gd_take (by omega), gd_drop, v_E_get (by omega)]
      exact v_ex_in h (by omega))
    rw [ht] at this
    rw [v_fil_get hj]
    unfold v_ceil
    have a := Int.ediv_le_ediv hf.pos this.1
    have b := Int.ediv_le_ediv hf.pos (show -(v_lin (v_both f) ((p0.drop j).take (v_both f).length)).2 ≤ -v_tot p0 p1 f j by omega)
    simp only; omega
section
variable {p0 : List (Int × Int)} {p1 : List Int} {p2 : List Int × Int} (W : v_win p0 p1 p2) (y1 z1 : Int)
include W
theorem w_fil : t_gravity_Filtered p2.1 p0 = (v_fil p2.1 p0, 0) ∧ t_gravity_Filtered p2.1 (v_PT p0 p1 p0.length) = (v_fil p2.1 (v_PT p0 p1 p0.length), 0) := by
  have hfe : v_filerr p2.1 = 0 := by
    have h1 := W.fok.one
    have h9 := W.fok.nine
    rw [tx_filerr h1 h9]
    have : v_any_slices_ContainsFuncint_int__gravity_CheckFilter_1 p2.1 = false := by
      refine List.any_eq_false.2 fun x hx => ?_
      have := tx_sized.2 (W.fok.all x hx)
      simp [s_gravity_CheckFilter_1, this]
    rw [this, decide_eq_true (show v_fsum p2.1 > 0 from W.fok.pos)]; rfl
  have e1 : v_flerr p2.1 p0 = 0 := by
    unfold v_flerr
    rw [hfe, show s_gravity_rangesErr p0 = 0 from W.hok.err]; rfl
  have e2 : v_flerr p2.1 (v_PT p0 p1 p0.length) = 0 := by
    unfold v_flerr
    rw [hfe, show s_gravity_rangesErr (v_PT p0 p1 p0.length) = 0 from (v_PT_hok W.hok).err]; rfl
  unfold t_gravity_Filtered
  rw [e1, e2]
  exact ⟨rfl, rfl⟩
theorem w_0 (y7 b : Int) (j : Nat) (hj : j < (v_fil p2.1 p0).length) : OkL (st_law05_GravityWithin_0 p0 p1 p2 y1 (z1, (v_PT p0 p1 p0.length, v_E p0 p1 p0.length)) y7 (b, v_fsum p2.1) (j : Int)) (sp_law05_GravityWithin_0 p0 p1 p2 y1 (z1, (v_PT p0 p1 p0.length, v_E p0 p1 p0.length)) y7 (b, v_fsum p2.1) (j : Int)) (0 - ((p2.1.length : Int) - 1), 0) ∧ lpv (Sum.inr (Sum.inr (Sum.inr (Sum.inr (Sum.inr false))))) (st_law05_GravityWithin_0 p0 p1 p2 y1 (z1, (v_PT p0 p1 p0.length, v_E p0 p1 p0.length)) y7 (b, v_fsum p2.1) (j : Int)) (0 - ((p2.1.length : Int) - 1), 0) = Sum.inl ((j + 1 : Nat) : Int) := by
  obtain ⟨f1, f2⟩ := w_fil W
  have h1 := W.fok.one
  have h9 := W.fok.nine
  have hlen := W.hok.len
  have hb := v_both_len h1
  have hj' := hj
  rw [v_fil_len] at hj'
  have hm : IntKind.i64.wrap ((p2.1.length : Int) - 1) = (p2.1.length : Int) - 1 := wrap_id (by omega) (by omega)
  have hl2 : (v_fil p2.1 (v_PT p0 p1 p0.length)).length = (v_fil p2.1 p0).length := by rw [v_fil_len, v_fil_len, v_PT_len]
  refine for_is (fun i t => (i - ((p2.1.length : Int) - 1), t)) 0 (2 * p2.1.length - 1) (fun i t => t = v_sums (fun i => v_at p2.1 ((i : Int) - ((p2.1.length : Int) - 1)) * v_ex p0 p1 (j + i)) 0 i) (fun _ _ => Sum.inl ((j + 1 : Nat) : Int)) (by omega) (by omega) ?_ ?_ _ rfl
  · intro t ht
    have ht' : t = v_tot p0 p1 p2.1 j := ht
    have hb' := v_tot_in (p1 := p1) W.hok W.fok.tov_fw (j := j) (2 * p2.1.length - 1) (by omega)
    rw [← ht] at hb'
    obtain ⟨q1, q2, q3⟩ := v_fil_pt (p1 := p1) W.hok W.fok hj
    have hd : decide (((2 * p2.1.length - 1 : Nat) : Int) - ((p2.1.length : Int) - 1) ≤ (p2.1.length : Int) - 1) = false := decide_eq_false (by omega)
    have no : ∀ {p : Prop}, decide (((2 * p2.1.length - 1 : Nat) : Int) - ((p2.1.length : Int) - 1) ≤ (p2.1.length : Int) - 1) = true → p := fun h => by rw [hd] at h; cases h
    have hp := W.fok.pos
    refine ⟨?_, ?_⟩
    · simp only [sp_law05_GravityWithin_0, List.forall_mem_cons, hm, s_ref05_CopyFilter, f1, f2]
      exact ⟨no, no, no, no, fun _ => by omega, fun _ => by omega, fun _ => by unfold v_fit; omega, fun _ => hp, fun _ _ => by omega, fun _ _ => by omega, fun _ _ => by omega, fun _ _ => by omega, fun _ _ => by omega, fun _ _ => by omega, by simp⟩
    · simp only [st_law05_GravityWithin_0, hm, hd, cond_false, s_ref05_CopyFilter, f1, f2, Int.toNat_natCast, q1, ht', beq_self_eq_true, Bool.and_self, Bool.not_true]
      rw [decide_eq_false (show ¬ v_tot p0 p1 p2.1 j / v_fsum p2.1 < ((v_fil p2.1 p0).getD j (0, 0)).1 by omega), decide_eq_false (show ¬ v_ceil (v_tot p0 p1 p2.1 j) (v_fsum p2.1) > ((v_fil p2.1 p0).getD j (0, 0)).2 by omega), wrap_nat (by omega)]
      rfl
  · intro i t _ hi ht
    have hd : decide ((i : Int) - ((p2.1.length : Int) - 1) ≤ (p2.1.length : Int) - 1) = true := decide_eq_true (by omega)
    have no : ∀ {p : Prop}, decide ((i : Int) - ((p2.1.length : Int) - 1) ≤ (p2.1.length : Int) - 1) = false → p := fun h => by rw [hd] at h; cases h
    have hs : s_base_Size ((i : Int) - ((p2.1.length : Int) - 1)) = (((i : Int) - ((p2.1.length : Int) - 1)).natAbs : Nat) := tx_size (by unfold v_fit; omega)
    have hw1 : IntKind.i64.wrap ((j : Int) + ((p2.1.length : Int) - 1)) = (j : Int) + ((p2.1.length : Int) - 1) := wrap_id (by omega) (by omega)
    have hw2 : IntKind.i64.wrap ((j : Int) + ((p2.1.length : Int) - 1) + ((i : Int) - ((p2.1.length : Int) - 1))) = ((j + i : Nat) : Int) := by rw [wrap_id (by omega) (by omega)]; omega
    refine ⟨?_, .inl ⟨_, ?_, rfl, rfl⟩⟩
    · simp only [sp_law05_GravityWithin_0, List.forall_mem_cons, hm, hs, hw1, hw2, v_E_len]
      exact ⟨fun _ => by omega, fun _ => by omega, fun _ => by omega, fun _ => by omega, no, no, no, no, no, no, no, no, no, no, by simp⟩
    · have ha := v_tot_in (p1 := p1) W.hok W.fok.tov_fw (j := j) i (by omega)
      have hb' := v_tot_in (p1 := p1) W.hok W.fok.tov_fw (j := j) (i + 1) (by omega)
      rw [v_sums_last, Nat.zero_add] at hb'
      have hat : p2.1.getD ((i : Int) - ((p2.1.length : Int) - 1)).natAbs 0 = v_at p2.1 ((i : Int) - ((p2.1.length : Int) - 1)) := rfl
      simp only [st_law05_GravityWithin_0, hm, hs, hw1, hw2, hd, cond_true, Int.toNat_natCast, v_E_get (show j + i < p0.length by omega), hat, ht]
      rw [v_sums_last, Nat.zero_add, wrap_id (n := v_at p2.1 ((i : Int) - ((p2.1.length : Int) - 1)) * v_ex p0 p1 (j + i)) (by omega) (by omega), wrap_id (by omega) (by omega), wrap_id (by omega) (by omega), show (i : Int) - ((p2.1.length : Int) - 1) + 1 = ((i + 1 : Nat) : Int) - ((p2.1.length : Int) - 1) by omega]
theorem w_1 (y7 b : Int) : OkL (st_law05_GravityWithin_1 p0 p1 p2 y1 (z1, (v_PT p0 p1 p0.length, v_E p0 p1 p0.length)) y7 (b, v_fsum p2.1)) (sp_law05_GravityWithin_1 p0 p1 p2 y1 (z1, (v_PT p0 p1 p0.length, v_E p0 p1 p0.length)) y7 (b, v_fsum p2.1)) 0 ∧ lpv (Sum.inr (Sum.inr (Sum.inr (Sum.inr false)))) (st_law05_GravityWithin_1 p0 p1 p2 y1 (z1, (v_PT p0 p1 p0.length, v_E p0 p1 p0.length)) y7 (b, v_fsum p2.1)) 0 = Sum.inr (Sum.inr (Sum.inr (Sum.inr true))) := by
  obtain ⟨f1, f2⟩ := w_fil W
  have h1 := W.fok.one
  have h9 := W.fok.nine
  have hlen := W.hok.len
  have hm : IntKind.i64.wrap ((p2.1.length : Int) - 1) = (p2.1.length : Int) - 1 := wrap_id (by omega) (by omega)
  have hm0 : IntKind.i64.wrap (0 - ((p2.1.length : Int) - 1)) = 0 - ((p2.1.length : Int) - 1) := wrap_id (by omega) (by omega)
  have hl := v_fil_len p2.1 p0
  refine for_is (fun i (_ : Unit) => i) 0 (v_fil p2.1 p0).length (fun _ _ => True) (fun _ _ => Sum.inr (Sum.inr (Sum.inr (Sum.inr true)))) (by omega) (by omega) ?_ ?_ () trivial
  · intro t _
    have hd : decide (((v_fil p2.1 p0).length : Int) < ((v_fil p2.1 p0).length : Nat)) = false := decide_eq_false (by omega)
    refine ⟨by simp only [sp_law05_GravityWithin_1, List.forall_mem_cons, s_ref05_CopyFilter, f1]; exact ⟨fun h => (by rw [hd] at h; cases h), by simp⟩, ?_⟩
    simp only [st_law05_GravityWithin_1, s_ref05_CopyFilter, f1, hd, cond_false]
  · intro j t _ hj _
    have hd : decide ((j : Int) < ((v_fil p2.1 p0).length : Nat)) = true := decide_eq_true (by omega)
    obtain ⟨l1, l2⟩ := w_0 W y1 z1 y7 b j hj
    refine ⟨by simp only [sp_law05_GravityWithin_1, List.forall_mem_cons, hm, hm0]; exact ⟨fun _ => l1, by simp⟩, .inl ⟨(), ?_, trivial, rfl⟩⟩
    simp only [st_law05_GravityWithin_1, s_ref05_CopyFilter, f1, hd, cond_true, hm, hm0]
    exact l2
theorem w_2 (y7 : Int) : OkL (st_law05_GravityWithin_2 p0 p1 p2 y1 (z1, (v_PT p0 p1 p0.length, v_E p0 p1 p0.length)) y7) (sp_law05_GravityWithin_2 p0 p1 p2 y1 (z1, (v_PT p0 p1 p0.length, v_E p0 p1 p0.length)) y7) (0 - ((p2.1.length : Int) - 1), 0) ∧ lpv (Sum.inr (Sum.inr (Sum.inr false))) (st_law05_GravityWithin_2 p0 p1 p2 y1 (z1, (v_PT p0 p1 p0.length, v_E p0 p1 p0.length)) y7) (0 - ((p2.1.length : Int) - 1), 0) = Sum.inr (Sum.inr (Sum.inr true)) := by
  have h1 := W.fok.one
  have h9 := W.fok.nine
  have hm : IntKind.i64.wrap ((p2.1.length : Int) - 1) = (p2.1.length : Int) - 1 := wrap_id (by omega) (by omega)
  refine for_is (fun i t => (i - ((p2.1.length : Int) - 1), t)) 0 (2 * p2.1.length - 1) (fun i t => t = v_sums (fun i => v_at p2.1 ((i : Int) - ((p2.1.length : Int) - 1))) 0 i) (fun _ _ => Sum.inr (Sum.inr (Sum.inr true))) (by omega) (by omega) ?_ ?_ _ rfl
  · intro t ht
    have ht' : t = v_fsum p2.1 := ht
    subst ht'
    have hd : decide (((2 * p2.1.length - 1 : Nat) : Int) - ((p2.1.length : Int) - 1) ≤ (p2.1.length : Int) - 1) = false := decide_eq_false (by omega)
    have no : ∀ {p : Prop}, decide (((2 * p2.1.length - 1 : Nat) : Int) - ((p2.1.length : Int) - 1) ≤ (p2.1.length : Int) - 1) = true → p := fun h => by rw [hd] at h; cases h
    obtain ⟨l1, l2⟩ := w_1 W y1 z1 y7 (((2 * p2.1.length - 1 : Nat) : Int) - ((p2.1.length : Int) - 1))
    refine ⟨by simp only [sp_law05_GravityWithin_2, List.forall_mem_cons, hm]; exact ⟨no, no, fun _ => l1, by simp⟩, ?_⟩
    simp only [st_law05_GravityWithin_2, hm, hd, cond_false]
    exact l2
  · intro i t _ hi ht
    have hd : decide ((i : Int) - ((p2.1.length : Int) - 1) ≤ (p2.1.length : Int) - 1) = true := decide_eq_true (by omega)
    have no : ∀ {p : Prop}, decide ((i : Int) - ((p2.1.length : Int) - 1) ≤ (p2.1.length : Int) - 1) = false → p := fun h => by rw [hd] at h; cases h
    have hs : s_base_Size ((i : Int) - ((p2.1.length : Int) - 1)) = (((i : Int) - ((p2.1.length : Int) - 1)).natAbs : Nat) := tx_size (by unfold v_fit; omega)
    refine ⟨?_, .inl ⟨_, ?_, rfl, rfl⟩⟩
    · simp only [sp_law05_GravityWithin_2, List.forall_mem_cons, hm, hs]
      exact ⟨fun _ => by omega, fun _ => by omega, no, by simp⟩
    · have hb := v_sums_in (f := fun j => v_at p2.1 ((j : Int) - ((p2.1.length : Int) - 1))) (m := 100000) i 0 (fun k _ _ => W.fok.tov_fw.at _)
      have ha := W.fok.tov_fw.at ((i : Int) - ((p2.1.length : Int) - 1))
      have hat : p2.1.getD ((i : Int) - ((p2.1.length : Int) - 1)).natAbs 0 = v_at p2.1 ((i : Int) - ((p2.1.length : Int) - 1)) := rfl
      simp only [st_law05_GravityWithin_2, hm, hs, hd, cond_true, Int.toNat_natCast, hat, ht]
      rw [v_sums_last, Nat.zero_add, wrap_id (by omega) (by omega), wrap_id (by omega) (by omega), show (i : Int) - ((p2.1.length : Int) - 1) + 1 = ((i + 1 : Nat) : Int) - ((p2.1.length : Int) - 1) by omega]
theorem w_acc : t_gravity_AccelerationsOf p0 = (v_acc p0, 0) ∧ t_gravity_AccelerationsOf (v_PT p0 p1 p0.length) = (v_acc (v_PT p0 p1 p0.length), 0) ∧ t_gravity_ResidualsOf (v_E p0 p1 p0.length) p0 p2.2 = (v_res (v_E p0 p1 p0.length) p0 p2.2, 0) := by
  have h3 := W.three
  have hlen := W.hok.len
  have e1 : v_first (s_gravity_rangesErr p0 :: s_gravity_unless (decide ((p0.length : Int) ≥ 3)) 10 :: []) = 0 := by
    rw [show s_gravity_rangesErr p0 = 0 from W.hok.err, decide_eq_true (show (p0.length : Int) ≥ 3 by omega)]; rfl
  have e2 : v_first (s_gravity_rangesErr (v_PT p0 p1 p0.length) :: s_gravity_unless (decide (((v_PT p0 p1 p0.length).length : Int) ≥ 3)) 10 :: []) = 0 := by
    rw [show s_gravity_rangesErr (v_PT p0 p1 p0.length) = 0 from (v_PT_hok W.hok).err, v_PT_len, decide_eq_true (show (p0.length : Int) ≥ 3 by omega)]; rfl
  have e3 : v_reserr (v_E p0 p1 p0.length) p0 p2.2 = 0 := by
    have hr : s_gravity_readingsErr (v_E p0 p1 p0.length) = 0 := by
      unfold s_gravity_readingsErr
      have : v_any_slices_ContainsFuncint_int__gravity_readingsErr_1 (v_E p0 p1 p0.length) = false := by
        refine List.any_eq_false.2 fun x hx => ?_
        unfold v_E at hx
        obtain ⟨k, hk, rfl⟩ := List.mem_map.1 hx
        rw [List.mem_range'_1] at hk
        have a := v_ex_in (p1 := p1) W.hok (k := k) (by omega)
        have b := W.hok.at (k := k) (by omega)
        have : s_gravity_isSized (v_ex p0 p1 k) 1000000 = true := by
          unfold s_gravity_isSized
          rw [show IntKind.i64.wrap (0 - 1000000) = -1000000 from rfl]
          exact tx_within.2 (by omega)
        simp [s_gravity_readingsErr_1, this]
      rw [this, v_E_len, decide_eq_true (show (p0.length : Int) ≤ 64 by omega)]; rfl
    unfold v_reserr
    rw [hr, show s_gravity_rangesErr p0 = 0 from W.hok.err, tx_within.2 W.sc, v_E_len, decide_eq_true (show (p0.length : Int) ≥ 3 by omega)]
    simp [s_gravity_unless, v_first]
  unfold t_gravity_AccelerationsOf t_gravity_ResidualsOf
  rw [e1, e2, e3]
  exact ⟨rfl, rfl, rfl⟩
theorem w_3 : OkL (st_law05_GravityWithin_3 p0 p1 p2 y1 (z1, (v_PT p0 p1 p0.length, v_E p0 p1 p0.length))) (sp_law05_GravityWithin_3 p0 p1 p2 y1 (z1, (v_PT p0 p1 p0.length, v_E p0 p1 p0.length))) 0 ∧ lpv (Sum.inr (Sum.inr false)) (st_law05_GravityWithin_3 p0 p1 p2 y1 (z1, (v_PT p0 p1 p0.length, v_E p0 p1 p0.length))) 0 = Sum.inr (Sum.inr true) := by
  obtain ⟨f1, f2⟩ := w_fil W
  obtain ⟨a1, a2, a3⟩ := w_acc W
  have h3 := W.three
  have h1 := W.fok.one
  have h9 := W.fok.nine
  have hlen := W.hok.len
  have hb := v_both_len h1
  have hm : IntKind.i64.wrap ((p2.1.length : Int) - 1) = (p2.1.length : Int) - 1 := wrap_id (by omega) (by omega)
  have hm0 : IntKind.i64.wrap (0 - ((p2.1.length : Int) - 1)) = 0 - ((p2.1.length : Int) - 1) := wrap_id (by omega) (by omega)
  have hm2 : IntKind.i64.wrap (2 * ((p2.1.length : Int) - 1)) = 2 * ((p2.1.length : Int) - 1) := wrap_id (by omega) (by omega)
  have hm3 : IntKind.i64.wrap ((p0.length : Int) - 2 * ((p2.1.length : Int) - 1)) = (p0.length : Int) - 2 * ((p2.1.length : Int) - 1) := wrap_id (by omega) (by omega)
  have hm4 : IntKind.i64.wrap ((p0.length : Int) - 2) = ((p0.length - 2 : Nat) : Int) := by rw [wrap_id (by omega) (by omega)]; omega
  have hl := v_fil_len p2.1 p0
  have hl2 : (v_fil p2.1 (v_PT p0 p1 p0.length)).length = (v_fil p2.1 p0).length := by rw [v_fil_len, v_fil_len, v_PT_len]
  have la := v_acc_len p0
  have lb := v_acc_len (v_PT p0 p1 p0.length)
  rw [v_PT_len] at lb
  have lr : (v_res (v_E p0 p1 p0.length) p0 p2.2).length = p0.length - 2 := by simp [v_res]
  refine for_is (fun i (_ : Unit) => i) 0 (p0.length - 2) (fun _ _ => True) (fun _ _ => Sum.inr (Sum.inr true)) (by omega) (by omega) ?_ ?_ () trivial
  · intro t _
    have hd : decide (((p0.length - 2 : Nat) : Int) < ((p0.length - 2 : Nat) : Int)) = false := decide_eq_false (by omega)
    have no : ∀ {p : Prop}, decide (((p0.length - 2 : Nat) : Int) < ((p0.length - 2 : Nat) : Int)) = true → p := fun h => by rw [hd] at h; cases h
    obtain ⟨l1, l2⟩ := w_2 W y1 z1 ((p0.length - 2 : Nat) : Int)
    refine ⟨?_, ?_⟩
    · simp only [sp_law05_GravityWithin_3, List.forall_mem_cons, hm4, hm, hm0]
      exact ⟨no, no, no, no, no, no, no, no, no, no, no, no, no, fun _ => by omega, fun _ => by omega, fun _ => lenOk_m (l := p2.1) (by omega), fun _ _ => l1, by simp⟩
    · simp only [st_law05_GravityWithin_3, hm4, hm, hm0, hm2, hm3, hd, cond_false, s_ref05_CopyFilter, f1, f2, hl2]
      rw [show (((v_fil p2.1 p0).length : Nat) : Int) = max 0 ((p0.length : Int) - 2 * ((p2.1.length : Int) - 1)) by omega]
      simp only [bne_self_eq_false, cond_false]
      exact l2
  · intro i t _ hi _
    have hd : decide ((i : Int) < ((p0.length - 2 : Nat) : Int)) = true := decide_eq_true (by omega)
    have no : ∀ {p : Prop}, decide ((i : Int) < ((p0.length - 2 : Nat) : Int)) = false → p := fun h => by rw [hd] at h; cases h
    have hw2 : IntKind.i64.wrap ((i : Int) + 2) = ((i + 2 : Nat) : Int) := by rw [wrap_id (by omega) (by omega)]; omega
    have hw1 : IntKind.i64.wrap ((i : Int) + 1) = ((i + 1 : Nat) : Int) := wrap_nat (by omega)
    refine ⟨?_, .inl ⟨(), ?_, trivial, rfl⟩⟩
    · simp only [sp_law05_GravityWithin_3, List.forall_mem_cons, hm4, hw1, hw2, a1, a2, a3, v_E_len, la, lb, lr]
      exact ⟨fun _ => by omega, fun _ => by omega, fun _ => by omega, fun _ => by omega, fun _ => by omega, fun _ => by omega, fun _ => by omega, fun _ _ => by omega, fun _ _ => by omega, fun _ _ => by omega, fun _ _ => by omega, fun _ _ => by omega, fun _ _ => by omega, no, no, no, no, by simp⟩
    · have ea := v_ex_in (p1 := p1) W.hok (k := i) (by omega)
      have eb := v_ex_in (p1 := p1) W.hok (k := i + 1) (by omega)
      have ec := v_ex_in (p1 := p1) W.hok (k := i + 2) (by omega)
      have ha := W.hok.at (k := i) (by omega)
      have hb := W.hok.at (k := i + 1) (by omega)
      have hc := W.hok.at (k := i + 2) (by omega)
      have q1 : (v_acc (v_PT p0 p1 p0.length)).getD i (0, 0) = (v_ex p0 p1 (i + 2) - 2 * v_ex p0 p1 (i + 1) + v_ex p0 p1 i, v_ex p0 p1 (i + 2) - 2 * v_ex p0 p1 (i + 1) + v_ex p0 p1 i) := by
        rw [v_acc_get (by rw [v_PT_len]; omega), v_PT_get (by omega), v_PT_get (by omega), v_PT_get (by omega), v_sec_eq (Int.le_refl _) (Int.le_refl _) (Int.le_refl _)]
      have q2 : (v_acc p0).getD i (0, 0) = ((p0.getD (i + 2) (0, 0)).1 - 2 * (p0.getD (i + 1) (0, 0)).2 + (p0.getD i (0, 0)).1, (p0.getD (i + 2) (0, 0)).2 - 2 * (p0.getD (i + 1) (0, 0)).1 + (p0.getD i (0, 0)).2) := by
        rw [v_acc_get (by omega), v_sec_eq ha.2.2 hb.2.2 hc.2.2]
      have q3 : (v_res (v_E p0 p1 p0.length) p0 p2.2).getD i (0, 0) = (IntKind.i64.wrap (v_ex p0 p1 (i + 1) - IntKind.i64.wrap (p2.2 * ((v_acc p0).getD i (0, 0)).2)), IntKind.i64.wrap (v_ex p0 p1 (i + 1) - IntKind.i64.wrap (p2.2 * ((v_acc p0).getD i (0, 0)).1))) := by
        unfold v_res
        rw [gd_map_range (by omega), Nat.zero_add, v_E_get (by omega)]
      simp only [st_law05_GravityWithin_3, hm4, hd, cond_true, hw1, hw2, a1, a2, a3, Int.toNat_natCast, v_E_get (show i + 2 < p0.length by omega), v_E_get (show i + 1 < p0.length by omega), v_E_get (show i < p0.length by omega), q1, q3, q2]
      generalize v_ex p0 p1 i = a at *
      generalize v_ex p0 p1 (i + 1) = b at *
      generalize v_ex p0 p1 (i + 2) = c at *
      generalize p0.getD i (0, 0) = x at *
      generalize p0.getD (i + 1) (0, 0) = y at *
      generalize p0.getD (i + 2) (0, 0) = z at *
      have hs := W.sc
      generalize hM : z.2 - 2 * y.1 + x.2 = M
      generalize hL : z.1 - 2 * y.2 + x.1 = L
      have hw : IntKind.i64.wrap (IntKind.i64.wrap (c - IntKind.i64.wrap (2 * b)) + a) = c - 2 * b + a := by
        rw [wrap_id (n := 2 * b) (by omega) (by omega), wrap_id (n := c - 2 * b) (by omega) (by omega), wrap_id (by omega) (by omega)]
      rw [hw]
      generalize hQ : c - 2 * b + a = Q
      have m0 := mul_abs (show -1000 ≤ p2.2 by omega) hs.2 (show -4000000 ≤ Q by omega) (show Q ≤ 4000000 by omega)
      have m1 := mul_abs (show -1000 ≤ p2.2 by omega) hs.2 (show -4000000 ≤ L by omega) (show L ≤ 4000000 by omega)
      have m2 := mul_abs (show -1000 ≤ p2.2 by omega) hs.2 (show -4000000 ≤ M by omega) (show M ≤ 4000000 by omega)
      have l1 := Int.mul_le_mul_of_nonneg_left (show L ≤ Q by omega) hs.1
      have l2 := Int.mul_le_mul_of_nonneg_left (show Q ≤ M by omega) hs.1
      generalize p2.2 * Q = sQ at *
      generalize p2.2 * L = sL at *
      generalize p2.2 * M = sM at *
      rw [wrap_id (n := sQ) (by omega) (by omega), wrap_id (n := sL) (by omega) (by omega), wrap_id (n := sM) (by omega) (by omega), wrap_id (n := b - sQ) (by omega) (by omega), wrap_id (n := b - sL) (by omega) (by omega), wrap_id (n := b - sM) (by omega) (by omega)]
      have w1 : s_base_Within Q L M = true := tx_within.2 ⟨by omega, by omega⟩
      have w2 : s_base_Within (b - sQ) (b - sM) (b - sL) = true := tx_within.2 ⟨by omega, by omega⟩
      rw [w1, w2]
      simp only [beq_self_eq_true, Bool.and_self, Bool.not_true, cond_false]
theorem w_4 : OkL (st_law05_GravityWithin_4 p0 p1 p2 y1) (sp_law05_GravityWithin_4 p0 p1 p2 y1) (0, ([], [])) ∧ lpv (Sum.inr false) (st_law05_GravityWithin_4 p0 p1 p2 y1) (0, ([], [])) = Sum.inr true := by
  obtain ⟨a1, a2, a3⟩ := w_acc W
  have h3 := W.three
  have hlen := W.hok.len
  have hp := W.len
  have hm4 : IntKind.i64.wrap ((p0.length : Int) - 2) = ((p0.length - 2 : Nat) : Int) := by rw [wrap_id (by omega) (by omega)]; omega
  have la := v_acc_len p0
  have lb := v_acc_len (v_PT p0 p1 p0.length)
  rw [v_PT_len] at lb
  have lr : (v_res (v_E p0 p1 p0.length) p0 p2.2).length = p0.length - 2 := by simp [v_res]
  refine for_is (fun i t => (i, t)) 0 p0.length (fun j t => t = (v_PT p0 p1 j, v_E p0 p1 j)) (fun _ _ => Sum.inr true) (by omega) (by omega) ?_ ?_ _ rfl
  · rintro t rfl
    have hd : decide ((p0.length : Int) < (p0.length : Nat)) = false := decide_eq_false (by omega)
    have no : ∀ {p : Prop}, decide ((p0.length : Int) < (p0.length : Nat)) = true → p := fun h => by rw [hd] at h; cases h
    obtain ⟨l1, l2⟩ := w_3 W y1 (p0.length : Int)
    refine ⟨?_, ?_⟩
    · simp only [sp_law05_GravityWithin_4, List.forall_mem_cons]
      exact ⟨no, no, no, no, no, no, fun _ => by omega, fun _ => by rw [v_PT_len]; omega, fun _ => by rw [v_E_len]; omega, fun _ => lenOk_m (by rw [v_E_len]; omega), fun _ _ => l1, by simp⟩
    · simp only [st_law05_GravityWithin_4, hd, cond_false, a1, a2, a3, la, lb, lr, hm4, bne_self_eq_false]
      exact l2
  · rintro j t _ hj rfl
    have hd : decide ((j : Int) < (p0.length : Nat)) = true := decide_eq_true (by omega)
    have no : ∀ {p : Prop}, decide ((j : Int) < (p0.length : Nat)) = false → p := fun h => by rw [hd] at h; cases h
    have ha := W.hok.at hj
    have he := v_ex_in (p1 := p1) W.hok hj
    have w1 : IntKind.i64.wrap ((p0.getD j (0, 0)).2 - (p0.getD j (0, 0)).1) = (p0.getD j (0, 0)).2 - (p0.getD j (0, 0)).1 := wrap_id (by omega) (by omega)
    have w2 : IntKind.i64.wrap ((p0.getD j (0, 0)).2 - (p0.getD j (0, 0)).1 + 1) = (p0.getD j (0, 0)).2 - (p0.getD j (0, 0)).1 + 1 := wrap_id (by omega) (by omega)
    have w3 : IntKind.i64.wrap ((p0.getD j (0, 0)).1 + p1.getD j 0 % ((p0.getD j (0, 0)).2 - (p0.getD j (0, 0)).1 + 1)) = v_ex p0 p1 j := wrap_id (by unfold v_ex at he; omega) (by unfold v_ex at he; omega)
    have s1 : v_PT p0 p1 (j + 1) = v_PT p0 p1 j ++ [(v_ex p0 p1 j, v_ex p0 p1 j)] := by unfold v_PT; rw [List.range'_concat]; simp
    have s2 : v_E p0 p1 (j + 1) = v_E p0 p1 j ++ [v_ex p0 p1 j] := by unfold v_E; rw [List.range'_concat]; simp
    refine ⟨?_, .inl ⟨_, ?_, rfl, rfl⟩⟩
    · simp only [sp_law05_GravityWithin_4, List.forall_mem_cons, Int.toNat_natCast, w1, w2, w3, v_PT_len, v_E_len, List.length_cons, List.length_nil]
      exact ⟨fun _ => by omega, fun _ => by omega, fun _ => by omega, fun _ => by omega, fun _ => by omega, fun _ => by omega, no, no, no, no, no, by simp⟩
    · simp only [st_law05_GravityWithin_4, hd, cond_true, Int.toNat_natCast, w1, w2, w3, wrap_nat (show (j : Int) ≤ 9223372036854775806 by omega), s1, s2]
theorem w_5 : OkL (st_law05_GravityWithin_5 p0 p1 p2) (sp_law05_GravityWithin_5 p0 p1 p2) 0 ∧ lpv false (st_law05_GravityWithin_5 p0 p1 p2) 0 = true := by
  have h9 := W.fok.nine
  refine for_is (fun i (_ : Unit) => i) 0 p2.1.length (fun _ _ => True) (fun _ _ => true) (by omega) (by omega) ?_ ?_ () trivial
  · intro t _
    have hd : decide ((p2.1.length : Int) < (p2.1.length : Nat)) = false := decide_eq_false (by omega)
    have no : ∀ {p : Prop}, decide ((p2.1.length : Int) < (p2.1.length : Nat)) = true → p := fun h => by rw [hd] at h; cases h
    obtain ⟨l1, l2⟩ := w_4 W (p2.1.length : Int)
    refine ⟨by simp only [sp_law05_GravityWithin_5, List.forall_mem_cons]; exact ⟨no, no, fun _ => l1, by simp⟩, ?_⟩
    simp only [st_law05_GravityWithin_5, hd, cond_false]
    exact l2
  · intro j t _ hj _
    have hd : decide ((j : Int) < (p2.1.length : Nat)) = true := decide_eq_true (by omega)
    have no : ∀ {p : Prop}, decide ((j : Int) < (p2.1.length : Nat)) = false → p := fun h => by rw [hd] at h; cases h
    refine ⟨by simp only [sp_law05_GravityWithin_5, List.forall_mem_cons]; exact ⟨fun _ => by omega, fun _ => by omega, no, by simp⟩, ?_⟩
    simp only [st_law05_GravityWithin_5, hd, cond_true, Int.toNat_natCast]
    cases s_base_Within (p2.1.getD j 0) (-1000) 1000
    · exact .inr rfl
    · exact .inl ⟨(), by rw [wrap_nat (by omega)]; rfl, trivial, trivial⟩
end
/-- The plain law. -/
theorem plain_law05_GravityWithin (p0 : List (Int × Int)) (p1 : List Int) (p2 : List Int × Int) (_ : okPs P_law05_GravityWithin (p0, p1, p2)) : (∀ p ∈ pre_law05_GravityWithin p0 p1 p2, p) ∧ s_law05_GravityWithin p0 p1 p2 = true := by
  simp only [pre_law05_GravityWithin, s_law05_GravityWithin, List.forall_mem_cons]
  cases hc : cond (cond (cond (cond (s_ref05_HeightsErr p0 != 0) true (decide ((p0.length : Int) < 3))) true ((p1.length : Int) != (p0.length : Nat))) true (v_filerr p2.1 != 0)) true (s_ref05_WithinErr p2.2 1000 != 0)
  · have W : v_win p0 p1 p2 := by
      rcases int0 (s_ref05_HeightsErr p0) with ⟨b1, b2, _⟩ | ⟨b1, b2, _⟩
      · cases d1 : decide ((p0.length : Int) < 3)
        · by_cases d2 : (p1.length : Int) = (p0.length : Nat)
          · rcases int0 (v_filerr p2.1) with ⟨c1, c2, _⟩ | ⟨c1, c2, _⟩
            · rcases int0 (s_ref05_WithinErr p2.2 1000) with ⟨e1, e2, _⟩ | ⟨e1, e2, _⟩
              · refine ⟨tx_heights (show (v_heights p0).2 = 0 from b1), by have := of_decide_eq_false d1; omega, by omega, tx_fok c1, ?_⟩
                unfold s_ref05_WithinErr at e1
                cases hw : s_base_Within p2.2 0 1000
                · rw [hw] at e1; cases e1
                · exact tx_within.1 hw
              · rw [b2, d1, show ((p1.length : Int) != (p0.length : Nat)) = false from (bne_eq_false_iff_eq ..).2 d2, c2, e2] at hc; cases hc
            · rw [b2, d1, show ((p1.length : Int) != (p0.length : Nat)) = false from (bne_eq_false_iff_eq ..).2 d2, c2] at hc; cases hc
          · rw [b2, d1, show ((p1.length : Int) != (p0.length : Nat)) = true from bne_iff_ne.2 d2] at hc; cases hc
        · rw [b2, d1] at hc; cases hc
      · rw [b2] at hc; cases hc
    obtain ⟨l1, l2⟩ := w_5 W
    exact ⟨⟨fun _ => l1, by simp⟩, l2⟩
  · exact ⟨⟨fun h => (by cases h), by simp⟩, rfl⟩

theorem own : ownKnob Tryd.prog.godebug = none := by kernel_rfl
theorem laidOut : laidOutB Tryd.prog = true := by kernel_rfl
theorem hfn9 : Tryd.prog.funcs[9]? = some (fnOf Tryd.prog 9) := by kernel_rfl
theorem hps9 : (fnOf Tryd.prog 9).params.size = 3 := by kernel_rfl
theorem globs (W : World) (h : laidMetH Tryd.prog Rows.gravityWithinRow.laid W) : Glob (fun b => b < W.heap.size) W := by
  intro g cs hg
  match g, hg with
  | 0, hg =>
    have e : [.int .i64 1, .int .i64 (-2), .int .i64 1] = cs := Option.some.inj hg
    subst e
    exact glob_ints (zs := [1, -2, 1]) (k := .i64) (t := 25) (e := 3) h (by kernel_rfl) (n := "cloverleaf/gravity.second") (.head _) (by kernel_rfl) (by kernel_rfl) (by kernel_rfl) (by kernel_rfl) (by kernel_rfl)
  | _ + 1, hg => cases hg
theorem lifted_GravityWithin (os : Os) (started : os.Started) (H : Type) (enc : TypeId × Value → H) :
    ReturnsInHanded {} Tryd.checked os 9 .any (fun w args => (Rows.gravityWithinSpec.pre enc Tryd.prog (fnOf Tryd.prog 9) Rows.gravityWithinRow.domain false w args ∧ laidMetH Tryd.prog Rows.gravityWithinRow.laid w) ∧ sizedMet enc Tryd.prog (fnOf Tryd.prog 9) (OpenSpec.ofChange Rows.gravityWithinSpec) false w args)
      (Rows.gravityWithinSpec.post enc Tryd.prog (fnOf Tryd.prog 9) false true false false) :=
  said_of_laid (C := Tryd.checked) (laid := Rows.gravityWithinRow.laid) (ss := P_law05_GravityWithin.map shP) (by kernel_rfl) own started (by kernel_rfl) hfn9
    (ChangeSpec.witness_shaped (enc := enc) (C := Tryd.checked) (os := os) (X := fun w _ => laidMetH Tryd.prog Rows.gravityWithinRow.laid w) false (World.laidAll Tryd.prog os Rows.gravityWithinRow.laid) (zeroArgs P_law05_GravityWithin) 8 (World.laidAll_os _ _ _)
      (World.shaped_of_ZipB (by kernel_rfl) (by kernel_rfl)) (by kernel_rfl) (by kernel_rfl) (by kernel_rfl)
      (by rw [MakeChecks.laidMetH_plain _ _ _ (by kernel_rfl)]; exact laidMet_laidAll _ (by kernel_rfl) (by kernel_rfl))) rfl
    (fun ds h => by
      rw [hps9] at h
      match ds, h with
      | [_, _, _], _ => rfl)
    laidOut (by kernel_rfl) (rt := (fnOf Tryd.prog 9).resultTypes.getD 0 0) (by kernel_rfl) (by kernel_rfl) (by kernel_rfl)
    (law_of ok_law05_GravityWithin fun x hx => ⟨(plain_law05_GravityWithin x.1 x.2.1 x.2.2 hx).1, congrArg (fun b => V.p (.bool b)) (plain_law05_GravityWithin x.1 x.2.1 x.2.2 hx).2⟩) globs
theorem GravityWithin_holds : Rows.GravityWithinSaid :=
  OpenClaim.holds_of_wide 9 (fnOf Tryd.prog 9) rfl rfl rfl rfl rfl rfl rfl ⟨rfl, rfl, rfl, rfl, rfl⟩ rfl rfl rfl rfl rfl (by kernel_rfl) hfn9 (by kernel_rfl)
    (of_decide_eq_true (by kernel_rfl)) (by unfold Func.isWrapper; first | (rw [if_pos (by decide +kernel)]; kernel_rfl) | (rw [if_neg (by decide +kernel)]; exact ⟨rfl, rfl⟩))
    (fun os started H enc _ => lifted_GravityWithin os started H enc)
theorem GravityWithinCard_holds : Rows.GravityWithinCardSaid :=
  Claim7.holds_tied_plain_at .later [] [.widerDeep] true (true, "7beca0c3d51d5b13018226e0a3ec850405335d46189a4e3e5247aa211c8b033a") false GravityWithin_holds (fun _ h => by cases h) (by kernel_rfl) (fun _ h => by cases h) gravityWithin_row_tie rfl ⟨rfl, rfl⟩ (by kernel_rfl) rfl
    (fun f fn hf hfn => by
      obtain rfl : f = 9 := Option.some.inj ((show Tryd.prog.funcNamed "cloverleaf/cloverleaflaw05.GravityWithin" = some 9 by kernel_rfl).symm.trans hf) |>.symm
      obtain rfl : fn = fnOf Tryd.prog 9 := (Option.some.inj (hfn9.symm.trans hfn)).symm
      exact ⟨by kernel_rfl, fun j t ht => by
        have hm : t ∈ (fnOf Tryd.prog 9).params.toList := by simpa using Array.mem_of_getElem? ht
        have hall : ((fnOf Tryd.prog 9).params.toList.all fun u => !Tryd.prog.wantsStandIn u) = true := by kernel_rfl
        exact (show Tryd.prog.wantsStandIn t = false by simpa using List.all_eq_true.1 hall t hm)⟩)
    (by kernel_rfl)
end Go.Proofs.YtcecdmdnfmgnfaaDoor
