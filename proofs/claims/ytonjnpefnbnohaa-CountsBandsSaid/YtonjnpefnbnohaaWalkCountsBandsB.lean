/- What the functions that CountsBands reaches compute: contracts, each function once. No condition. -/
import Derived.Test.YtonjnpefnbnohaaWalkCountsBandsA
import Derived.KernelRfl
namespace Go.Proofs.Ytonjnpefnbnohaa
open Go Go.Mx
set_option maxRecDepth 100000
/- base_Root -/
def C_base_Root : Cons := []
theorem hC_base_Root : ConsOk Try.prog C_base_Root := ConsOk.nil
def w_base_Root (p0 : Int) (K : Int → Prop) : Prop :=
  (∃ n0, (loopP (fun (y1 : (Int × Int)) k2 =>
    ((((decide (y1.1 > (0 : Int))) = true) →
    ((((decide ((Go.IntKind.wrap .i64 ((Go.IntKind.wrap .i64 (y1.2 + y1.1)) * (Go.IntKind.wrap .i64 (y1.2 + y1.1)))) ≤ p0)) = true) →
      (k2 ((Go.IntKind.wrap .i64 (Int.tdiv y1.1 (2 : Int))), (Go.IntKind.wrap .i64 (y1.2 + y1.1))))) ∧
      (((decide ((Go.IntKind.wrap .i64 ((Go.IntKind.wrap .i64 (y1.2 + y1.1)) * (Go.IntKind.wrap .i64 (y1.2 + y1.1)))) ≤ p0)) = false) →
      (k2 ((Go.IntKind.wrap .i64 (Int.tdiv y1.1 (2 : Int))), y1.2))))) ∧
    (((decide (y1.1 > (0 : Int))) = false) →
    (K y1.2)))) n0 ((1073741824 : Int), (0 : Int))))
set_option maxHeartbeats 4000000 in
theorem w_base_Root_eq (p0 : Int) (K : Int → Prop) : tfn F_base_Root A_base_Root C_base_Root P_base_Root R_base_Root p0 K = w_base_Root p0 K := by kernel_rfl
def b_base_Root_0 (p0 : Int) (K : Int → Prop) (y : (Int × Int)) (k : (Int × Int) → Prop) : Prop :=
  (((decide (y.1 > (0 : Int))) = true →
    (((decide ((Go.IntKind.wrap .i64 ((Go.IntKind.wrap .i64 (y.2 + y.1)) * (Go.IntKind.wrap .i64 (y.2 + y.1)))) ≤ p0)) = true →
      (k ((Go.IntKind.wrap .i64 (Int.tdiv y.1 (2 : Int))), (Go.IntKind.wrap .i64 (y.2 + y.1))))) ∧
    ((decide ((Go.IntKind.wrap .i64 ((Go.IntKind.wrap .i64 (y.2 + y.1)) * (Go.IntKind.wrap .i64 (y.2 + y.1)))) ≤ p0)) = false →
      (k ((Go.IntKind.wrap .i64 (Int.tdiv y.1 (2 : Int))), y.2))))) ∧
  ((decide (y.1 > (0 : Int))) = false →
    (K y.2)))
def lp_base_Root_0 (p0 : Int) (_ : Int × Int) : Int := v_root p0
abbrev lpre_base_Root_0 (p0 : Int) (x : Int × Int) : Prop := (0 ≤ p0 ∧ p0 < 4611686018427387904) ∧ x = (1073741824, 0)
/-- A power of 2, with its double, or 0 with 1. -/
def sp_bit (b c : Int) : Prop := (b = 0 ∧ c = 1) ∨ ∃ j : Nat, b = 2 ^ j ∧ c = 2 * b
theorem sp_bit_half {b c : Int} (h : sp_bit b c) (hb : 0 < b) : c = 2 * b ∧ sp_bit (b / 2) b := by
  rcases h with ⟨h1, _⟩ | ⟨j, h1, h2⟩
  · omega
  · refine ⟨h2, ?_⟩
    cases j with
    | zero => subst h1; exact .inl ⟨by decide, by decide⟩
    | succ i =>
      rw [Int.pow_succ] at h1
      exact .inr ⟨i, by omega, by omega⟩
theorem lk_base_Root_0 (p0 : Int) (x : Int × Int) (K : Int → Prop) (hp : lpre_base_Root_0 p0 x) (h : K (lp_base_Root_0 p0 x)) : ∃ n, loopP (b_base_Root_0 p0 K) n x := by
  obtain ⟨⟨hn, hn2⟩, rfl⟩ := hp
  refine ⟨1073741825, loop_ind (fun n s => ∃ c, sp_bit s.1 c ∧ 0 ≤ s.1 ∧ 0 ≤ s.2 ∧ s.2 + c ≤ 2147483648 ∧ s.2 * s.2 ≤ p0 ∧ p0 < (s.2 + c) * (s.2 + c) ∧ s.1 < (n : Int)) (fun s hs => by obtain ⟨c, hs⟩ := hs; omega) ?_ _ _ ⟨2147483648, .inr ⟨30, by decide, by decide⟩, by decide, by decide, by decide, by simpa using hn, by simpa using hn2, by decide⟩⟩
  rintro n ⟨b, r⟩ k ⟨c, h1, h2, h3, h4, h5, h6, h7⟩ hk
  simp only at h1 h2 h3 h4 h5 h6 h7
  unfold b_base_Root_0
  refine ⟨fun hb => ?_, fun hb => ?_⟩
  · have hb : b > 0 := of_decide_eq_true hb
    obtain ⟨rfl, h8⟩ := sp_bit_half h1 hb
    have e1 : IntKind.i64.wrap (r + b) = r + b := wrap_id (by omega) (by omega)
    have g := mul_in (x := r + b) (y := r + b) (a := 2147483648) (b := 2147483648) (by omega) (by omega) (by omega) (by omega)
    have e2 : IntKind.i64.wrap ((r + b) * (r + b)) = (r + b) * (r + b) := wrap_id (by omega) (by omega)
    have e3 : b.tdiv 2 = b / 2 := Int.tdiv_eq_ediv_of_nonneg (by omega)
    have e4 : IntKind.i64.wrap (b / 2) = b / 2 := wrap_id (by omega) (by omega)
    simp only [e1, e2, e3, e4]
    refine ⟨fun hm => hk _ ⟨b, h8, ?_⟩, fun hm => hk _ ⟨b, h8, ?_⟩⟩
    · have hm := of_decide_eq_true hm
      exact ⟨by simp only; omega, by simp only; omega, by simp only; omega, hm, by simp only; rw [show r + b + b = r + 2 * b by omega]; exact h6, by simp only; omega⟩
    · have hm := of_decide_eq_false hm
      exact ⟨by simp only; omega, h3, by simp only; omega, h5, by simp only; omega, by simp only; omega⟩
  · have hb := of_decide_eq_false hb
    have hb : b = 0 := by omega
    have hc : c = 1 := by
      rcases h1 with ⟨_, h⟩ | ⟨j, h, _⟩
      · exact h
      · have : (0 : Int) < 2 ^ j := Int.pow_pos (by decide)
        omega
    subst hc
    have h' : K (v_root p0) := h
    rw [v_root_is h3 h5 h6] at h'
    exact h'

def s_base_Root (p0 : Int) : Int :=
  (lp_base_Root_0 p0 ((1073741824 : Int), (0 : Int)))
abbrev pre_base_Root (p0 : Int) : List Prop := [(lpre_base_Root_0 p0 ((1073741824 : Int), (0 : Int)))]
set_option maxHeartbeats 4000000 in
theorem d_base_Root (p0 : Int) (K : Int → Prop) (hp : ∀ p ∈ pre_base_Root p0, p) (h : K (s_base_Root p0)) : w_base_Root p0 K := by
  unfold w_base_Root
  unfold s_base_Root at h
  obtain ⟨hp0, _⟩ := conj_of hp
  exact (Exists.imp (fun n hn => loop_mono (fun y k k' hk hy => ⟨fun e0 => ⟨fun e1 => (hk _ ((hy.1 e0).1 e1)), fun e1 => (hk _ ((hy.1 e0).2 e1))⟩, fun e0 => (hy.2 e0)⟩) n _ hn) (lk_base_Root_0 p0 ((1073741824 : Int), (0 : Int)) K (hp0) h))
abbrev t_base_Root (p0 : Int) : Int := v_root p0
abbrev qre_base_Root (p0 : Int) : List Prop := [0 ≤ p0 ∧ p0 < 4611686018427387904]
theorem pp_base_Root (p0 : Int) (hq : ∀ p ∈ qre_base_Root p0, p) : ∀ p ∈ pre_base_Root p0, p := by
  have hv := conj_of hq
  intro p hp
  simp only [pre_base_Root, List.mem_cons, List.not_mem_nil, or_false] at hp
  subst hp
  exact ⟨hv.1, rfl⟩
theorem tt_base_Root (p0 : Int) (_ : ∀ p ∈ qre_base_Root p0, p) : s_base_Root p0 = t_base_Root p0 := rfl

abbrev con_base_Root : Con := ⟨P_base_Root, R_base_Root, fun x => qre_base_Root x, fun x => t_base_Root x⟩
theorem ok_base_Root : ConOk Try.prog 88 con_base_Root := ⟨k_base_Root, fun x hx => ret_tf (ps := P_base_Root) (rs := R_base_Root) (x := x) (y := t_base_Root x) e_base_Root hC_base_Root (tf_of (w_base_Root_eq x (fun z => z = t_base_Root x)) (d_base_Root x (fun z => z = t_base_Root x) (pp_base_Root x hx) (tt_base_Root x hx)))⟩
/- ref06_Band -/
def C_ref06_Band : Cons := [(88, [], con_base_Root)]
theorem hC_ref06_Band : ConsOk Try.prog C_ref06_Band := ConsOk.cons ok_base_Root <| ConsOk.nil
def w_ref06_Band (p0 : (Int × Int)) (p1 : Int) (p2 : Int) (K : (Int × Int) → Prop) : Prop :=
  ((((0 : Int) ≤ p1) ∧
  (p1 < (4611686018427387904 : Int))) ∧
  ((((decide ((Go.IntKind.wrap .i64 ((v_root p1) * (v_root p1))) < p1)) = true) →
  (K ((Go.IntKind.wrap .i64 (p0.1 - (Go.IntKind.wrap .i64 (p2 * (Go.IntKind.wrap .i64 ((v_root p1) + (1 : Int))))))), (Go.IntKind.wrap .i64 (p0.2 + (Go.IntKind.wrap .i64 (p2 * (Go.IntKind.wrap .i64 ((v_root p1) + (1 : Int)))))))))) ∧
  (((decide ((Go.IntKind.wrap .i64 ((v_root p1) * (v_root p1))) < p1)) = false) →
  (K ((Go.IntKind.wrap .i64 (p0.1 - (Go.IntKind.wrap .i64 (p2 * (v_root p1))))), (Go.IntKind.wrap .i64 (p0.2 + (Go.IntKind.wrap .i64 (p2 * (v_root p1))))))))))
set_option maxHeartbeats 4000000 in
theorem w_ref06_Band_eq (p0 : (Int × Int)) (p1 : Int) (p2 : Int) (K : (Int × Int) → Prop) : tfn F_ref06_Band A_ref06_Band C_ref06_Band P_ref06_Band R_ref06_Band (p0, p1, p2) K = w_ref06_Band p0 p1 p2 K := by kernel_rfl
def s_ref06_Band (p0 : (Int × Int)) (p1 : Int) (p2 : Int) : (Int × Int) :=
  (cond (decide ((Go.IntKind.wrap .i64 ((v_root p1) * (v_root p1))) < p1)) ((Go.IntKind.wrap .i64 (p0.1 - (Go.IntKind.wrap .i64 (p2 * (Go.IntKind.wrap .i64 ((v_root p1) + (1 : Int))))))), (Go.IntKind.wrap .i64 (p0.2 + (Go.IntKind.wrap .i64 (p2 * (Go.IntKind.wrap .i64 ((v_root p1) + (1 : Int))))))))
    ((Go.IntKind.wrap .i64 (p0.1 - (Go.IntKind.wrap .i64 (p2 * (v_root p1))))), (Go.IntKind.wrap .i64 (p0.2 + (Go.IntKind.wrap .i64 (p2 * (v_root p1)))))))
abbrev pre_ref06_Band (p0 : (Int × Int)) (p1 : Int) (p2 : Int) : List Prop := [(((0 : Int) ≤ p1) ∧ (p1 < (4611686018427387904 : Int)))]
set_option maxHeartbeats 4000000 in
theorem d_ref06_Band (p0 : (Int × Int)) (p1 : Int) (p2 : Int) (K : (Int × Int) → Prop) (hp : ∀ p ∈ pre_ref06_Band p0 p1 p2, p) (h : K (s_ref06_Band p0 p1 p2)) : w_ref06_Band p0 p1 p2 K := by
  unfold w_ref06_Band
  unfold s_ref06_Band at h
  obtain ⟨hp0, _⟩ := conj_of hp
  exact ⟨(hp0), (br' h (fun e0 h => h)
    (fun e0 h => h))⟩
abbrev t_ref06_Band (p0 : Int × Int) (p1 p2 : Int) : Int × Int := v_band p0 p1 p2
abbrev qre_ref06_Band (p0 : Int × Int) (p1 p2 : Int) : List Prop := [v_bandok p0 p1 p2]
theorem pp_ref06_Band (p0 : Int × Int) (p1 p2 : Int) (hq : ∀ p ∈ qre_ref06_Band p0 p1 p2, p) : ∀ p ∈ pre_ref06_Band p0 p1 p2, p := by
  have hv := conj_of hq
  have := hv.1.sq
  intro p hp
  simp only [pre_ref06_Band, List.mem_cons, List.not_mem_nil, or_false] at hp
  subst hp
  omega
theorem tt_ref06_Band (p0 : Int × Int) (p1 p2 : Int) (hq : ∀ p ∈ qre_ref06_Band p0 p1 p2, p) : s_ref06_Band p0 p1 p2 = t_ref06_Band p0 p1 p2 := by
  have hv := (conj_of hq).1
  have hs := hv.sq
  obtain ⟨g1, g2⟩ := tx_rootUp hs
  obtain ⟨h1, h2, h3⟩ := v_rootUp_spec hs.1
  have hb := tx_bandw hv
  unfold s_ref06_Band t_ref06_Band
  unfold v_root
  by_cases hr : v_rootUp p1 * v_rootUp p1 = p1
  · rw [if_pos hr, hr, wrap_id (n := p1) (by omega) (by omega), show decide (p1 < p1) = false from decide_eq_false (by omega)]
    exact hb
  · have h4 : v_rootUp p1 ≠ 0 := by
      intro h0
      rw [h0] at h2 hr
      omega
    have h5 : (v_rootUp p1 - 1) * (v_rootUp p1 - 1) < p1 := by
      rcases h3 with h3 | h3
      · exact (h4 h3).elim
      · exact h3
    have h6 := Int.mul_nonneg (show 0 ≤ v_rootUp p1 - 1 by omega) (show 0 ≤ v_rootUp p1 - 1 by omega)
    rw [if_neg hr, wrap_id (n := (v_rootUp p1 - 1) * (v_rootUp p1 - 1)) (by omega) (by omega), show decide ((v_rootUp p1 - 1) * (v_rootUp p1 - 1) < p1) = true from decide_eq_true h5, show v_rootUp p1 - 1 + 1 = v_rootUp p1 by omega, wrap_id (n := v_rootUp p1) (by omega) (by omega)]
    exact hb

abbrev con_ref06_Band : Con := ⟨P_ref06_Band, R_ref06_Band, fun x => qre_ref06_Band x.1 x.2.1 x.2.2, fun x => t_ref06_Band x.1 x.2.1 x.2.2⟩
theorem ok_ref06_Band : ConOk Try.prog 27 con_ref06_Band := ⟨k_ref06_Band, fun x hx => ret_tf (ps := P_ref06_Band) (rs := R_ref06_Band) (x := x) (y := t_ref06_Band x.1 x.2.1 x.2.2) e_ref06_Band hC_ref06_Band (tf_of (w_ref06_Band_eq x.1 x.2.1 x.2.2 (fun z => z = t_ref06_Band x.1 x.2.1 x.2.2)) (d_ref06_Band x.1 x.2.1 x.2.2 (fun z => z = t_ref06_Band x.1 x.2.1 x.2.2) (pp_ref06_Band x.1 x.2.1 x.2.2 hx) (tt_ref06_Band x.1 x.2.1 x.2.2 hx)))⟩
end Go.Proofs.Ytonjnpefnbnohaa
