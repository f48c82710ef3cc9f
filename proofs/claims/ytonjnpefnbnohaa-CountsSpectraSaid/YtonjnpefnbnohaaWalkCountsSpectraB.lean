/- What the functions that CountsSpectra reaches compute: contracts, each function once. No condition. -/
import Derived.Test.YtonjnpefnbnohaaWalkCountsSpectraA
import Derived.KernelRfl
namespace Go.Proofs.Ytonjnpefnbnohaa
open Go Go.Mx
set_option maxRecDepth 100000
/- counts_Shifted -/
def C_counts_Shifted : Cons := [(101, [], con_counts_spectrumErr), (74, [], con_counts_within), (78, [], con_counts_unless), (77, [], con_counts_first)]
theorem hC_counts_Shifted : ConsOk Try.prog C_counts_Shifted := ConsOk.cons ok_counts_spectrumErr <| ConsOk.cons ok_counts_within <| ConsOk.cons ok_counts_unless <| ConsOk.cons ok_counts_first <| ConsOk.nil
def w_counts_Shifted (p0 : (List Int)) (p1 : Int) (K : ((List Int) × Int) → Prop) : Prop :=
  ((lenOk ((v_spec p0).2 :: ((s_counts_unless (s_counts_within p1 (-64 : Int) (64 : Int)) (2 : Int)) :: ([] : List Int)))) ∧
  (((((s_counts_first ((v_spec p0).2 :: ((s_counts_unless (s_counts_within p1 (-64 : Int) (64 : Int)) (2 : Int)) :: ([] : List Int)))) != (0 : Int)) = true) →
  (K (([] : List Int), (s_counts_first ((v_spec p0).2 :: ((s_counts_unless (s_counts_within p1 (-64 : Int) (64 : Int)) (2 : Int)) :: ([] : List Int))))))) ∧
  ((((s_counts_first ((v_spec p0).2 :: ((s_counts_unless (s_counts_within p1 (-64 : Int) (64 : Int)) (2 : Int)) :: ([] : List Int)))) != (0 : Int)) = false) →
  (((0 : Int) ≤ (((List.length p0) : Nat) : Int)) ∧
    ((((8 : Int) * (((List.length p0) : Nat) : Int)) ≤ (281474976710656 : Int)) ∧
    (((((List.length p0) : Nat) : Int) ≤ (9223372036854775807 : Int)) ∧
    (∃ n0, (loopP (fun (y1 : (Int × (List Int))) k2 =>
      ((((decide (y1.1 < (((List.length p0) : Nat) : Int))) = true) →
      (((0 : Int) ≤ y1.1) ∧
        ((y1.1 < (((List.length p0) : Nat) : Int)) ∧
        (((0 : Int) ≤ (min (Go.IntKind.wrap .i64 ((((List.length p0) : Nat) : Int) - (1 : Int))) (max (0 : Int) (Go.IntKind.wrap .i64 (y1.1 + p1))))) ∧
        (((min (Go.IntKind.wrap .i64 ((((List.length p0) : Nat) : Int) - (1 : Int))) (max (0 : Int) (Go.IntKind.wrap .i64 (y1.1 + p1)))) < (((List.length y1.2) : Nat) : Int)) ∧
        (((0 : Int) ≤ (min (Go.IntKind.wrap .i64 ((((List.length p0) : Nat) : Int) - (1 : Int))) (max (0 : Int) (Go.IntKind.wrap .i64 (y1.1 + p1))))) ∧
        (((min (Go.IntKind.wrap .i64 ((((List.length p0) : Nat) : Int) - (1 : Int))) (max (0 : Int) (Go.IntKind.wrap .i64 (y1.1 + p1)))) < (((List.length y1.2) : Nat) : Int)) ∧
        (k2 ((Go.IntKind.wrap .i64 (y1.1 + (1 : Int))), (List.set y1.2 (Int.toNat (min (Go.IntKind.wrap .i64 ((((List.length p0) : Nat) : Int) - (1 : Int))) (max (0 : Int) (Go.IntKind.wrap .i64 (y1.1 + p1))))) (Go.IntKind.wrap .i64 ((List.getD y1.2 (Int.toNat (min (Go.IntKind.wrap .i64 ((((List.length p0) : Nat) : Int) - (1 : Int))) (max (0 : Int) (Go.IntKind.wrap .i64 (y1.1 + p1))))) (0 : Int)) + (List.getD p0 (Int.toNat y1.1) (0 : Int)))))))))))))) ∧
      (((decide (y1.1 < (((List.length p0) : Nat) : Int))) = false) →
      (K (y1.2, (0 : Int)))))) n0 ((0 : Int), (List.replicate (Int.toNat (((List.length p0) : Nat) : Int)) (0 : Int)))))))))))
set_option maxHeartbeats 4000000 in
theorem w_counts_Shifted_eq (p0 : (List Int)) (p1 : Int) (K : ((List Int) × Int) → Prop) : tfn F_counts_Shifted A_counts_Shifted C_counts_Shifted P_counts_Shifted R_counts_Shifted (p0, p1) K = w_counts_Shifted p0 p1 K := by kernel_rfl
def b_counts_Shifted_0 (p0 : (List Int)) (p1 : Int) (K : ((List Int) × Int) → Prop) (y : (Int × (List Int))) (k : (Int × (List Int)) → Prop) : Prop :=
  (((decide (y.1 < (((List.length p0) : Nat) : Int))) = true →
    (((0 : Int) ≤ y.1) ∧
    ((y.1 < (((List.length p0) : Nat) : Int)) ∧
    (((0 : Int) ≤ (min (Go.IntKind.wrap .i64 ((((List.length p0) : Nat) : Int) - (1 : Int))) (max (0 : Int) (Go.IntKind.wrap .i64 (y.1 + p1))))) ∧
    (((min (Go.IntKind.wrap .i64 ((((List.length p0) : Nat) : Int) - (1 : Int))) (max (0 : Int) (Go.IntKind.wrap .i64 (y.1 + p1)))) < (((List.length y.2) : Nat) : Int)) ∧
    (((0 : Int) ≤ (min (Go.IntKind.wrap .i64 ((((List.length p0) : Nat) : Int) - (1 : Int))) (max (0 : Int) (Go.IntKind.wrap .i64 (y.1 + p1))))) ∧
    (((min (Go.IntKind.wrap .i64 ((((List.length p0) : Nat) : Int) - (1 : Int))) (max (0 : Int) (Go.IntKind.wrap .i64 (y.1 + p1)))) < (((List.length y.2) : Nat) : Int)) ∧
    (k ((Go.IntKind.wrap .i64 (y.1 + (1 : Int))), (List.set y.2 (Int.toNat (min (Go.IntKind.wrap .i64 ((((List.length p0) : Nat) : Int) - (1 : Int))) (max (0 : Int) (Go.IntKind.wrap .i64 (y.1 + p1))))) (Go.IntKind.wrap .i64 ((List.getD y.2 (Int.toNat (min (Go.IntKind.wrap .i64 ((((List.length p0) : Nat) : Int) - (1 : Int))) (max (0 : Int) (Go.IntKind.wrap .i64 (y.1 + p1))))) (0 : Int)) + (List.getD p0 (Int.toNat y.1) (0 : Int)))))))))))))) ∧
  ((decide (y.1 < (((List.length p0) : Nat) : Int))) = false →
    (K (y.2, (0 : Int)))))
/-- The channel to which a count goes. -/
def v_clamp (n x : Int) : Int := min (n - 1) (max 0 x)
def sp_shift (n d : Int) (i : Int) : List Int → List Int → List Int
  | [], out => out
  | x :: r, out => sp_shift n d (i + 1) r (out.set (v_clamp n (i + d)).toNat (IntKind.i64.wrap (out.getD (v_clamp n (i + d)).toNat 0 + x)))
def v_shifted (l : List Int) (d : Int) : List Int := sp_shift l.length d 0 l (List.replicate l.length 0)
def lp_counts_Shifted_0 (p0 : List Int) (p1 : Int) (_ : Int × List Int) : List Int × Int := (v_shifted p0 p1, 0)
abbrev lpre_counts_Shifted_0 (p0 : List Int) (p1 : Int) (x : Int × List Int) : Prop := (1 ≤ p0.length ∧ p0.length ≤ 64) ∧ (-64 ≤ p1 ∧ p1 ≤ 64) ∧ x = (0, List.replicate p0.length 0)
theorem v_clamp_in {n x : Int} (hn : 1 ≤ n) : 0 ≤ v_clamp n x ∧ v_clamp n x < n := by unfold v_clamp; omega
theorem lk_counts_Shifted_0 (p0 : List Int) (p1 : Int) (x : Int × List Int) (K : List Int × Int → Prop) (hp : lpre_counts_Shifted_0 p0 p1 x) (h : K (lp_counts_Shifted_0 p0 p1 x)) : ∃ n, loopP (b_counts_Shifted_0 p0 p1 K) n x := by
  obtain ⟨hl, hd, rfl⟩ := hp
  refine loop_list (fun i t => (i, t)) p0 0 (fun (t : List Int) r => t.length = p0.length ∧ K (sp_shift p0.length p1 ((p0.length : Int) - r.length) r t, 0)) ?_ ?_ (List.replicate p0.length 0) ⟨by simp, by simpa [lp_counts_Shifted_0, v_shifted] using h⟩
  · intro t k hI
    unfold b_counts_Shifted_0
    simpa [sp_shift] using hI.2
  · intro j t k hj hI hk
    obtain ⟨ht, hI⟩ := hI
    have hj' : (j : Int) < p0.length := by omega
    have e1 : (p0.length : Int) - ((p0.getD j 0 :: p0.drop (j + 1)).length : Int) = j := by simp; omega
    have e2 : (p0.length : Int) - ((p0.drop (j + 1)).length : Int) = (j : Int) + 1 := by simp; omega
    have e3 : IntKind.i64.wrap ((p0.length : Int) - 1) = (p0.length : Int) - 1 := wrap_id (by omega) (by omega)
    have e4 : IntKind.i64.wrap ((j : Int) + p1) = (j : Int) + p1 := wrap_id (by omega) (by omega)
    have hc := v_clamp_in (n := p0.length) (x := (j : Int) + p1) (by omega)
    rw [e1] at hI
    unfold b_counts_Shifted_0
    simp only [e3, e4, wrap_nat (show (j : Int) ≤ 9223372036854775806 by omega), hj', decide_true, Int.toNat_natCast, forall_const, Bool.true_eq_false, false_imp_iff, and_true]
    refine ⟨by omega, trivial, hc.1, ?_, hc.1, ?_, hk _ ⟨?_, ?_⟩⟩
    · rw [ht]; exact hc.2
    · rw [ht]; exact hc.2
    · rw [List.length_set]; exact ht
    · rw [e2]; exact hI

def s_counts_Shifted (p0 : (List Int)) (p1 : Int) : ((List Int) × Int) :=
  (cond ((s_counts_first ((v_spec p0).2 :: ((s_counts_unless (s_counts_within p1 (-64 : Int) (64 : Int)) (2 : Int)) :: ([] : List Int)))) != (0 : Int)) (([] : List Int), (s_counts_first ((v_spec p0).2 :: ((s_counts_unless (s_counts_within p1 (-64 : Int) (64 : Int)) (2 : Int)) :: ([] : List Int)))))
    (lp_counts_Shifted_0 p0 p1 ((0 : Int), (List.replicate (Int.toNat (((List.length p0) : Nat) : Int)) (0 : Int)))))
abbrev pre_counts_Shifted (p0 : (List Int)) (p1 : Int) : List Prop := [((((s_counts_first ((v_spec p0).2 :: ((s_counts_unless (s_counts_within p1 (-64 : Int) (64 : Int)) (2 : Int)) :: ([] : List Int)))) != (0 : Int)) = false) → ((0 : Int) ≤ (((List.length p0) : Nat) : Int))),
    ((((s_counts_first ((v_spec p0).2 :: ((s_counts_unless (s_counts_within p1 (-64 : Int) (64 : Int)) (2 : Int)) :: ([] : List Int)))) != (0 : Int)) = false) → (((8 : Int) * (((List.length p0) : Nat) : Int)) ≤ (281474976710656 : Int))),
    ((((s_counts_first ((v_spec p0).2 :: ((s_counts_unless (s_counts_within p1 (-64 : Int) (64 : Int)) (2 : Int)) :: ([] : List Int)))) != (0 : Int)) = false) → ((((List.length p0) : Nat) : Int) ≤ (9223372036854775807 : Int))),
    ((((s_counts_first ((v_spec p0).2 :: ((s_counts_unless (s_counts_within p1 (-64 : Int) (64 : Int)) (2 : Int)) :: ([] : List Int)))) != (0 : Int)) = false) → (lpre_counts_Shifted_0 p0 p1 ((0 : Int), (List.replicate (Int.toNat (((List.length p0) : Nat) : Int)) (0 : Int)))))]
set_option maxHeartbeats 4000000 in
theorem d_counts_Shifted (p0 : (List Int)) (p1 : Int) (K : ((List Int) × Int) → Prop) (hp : ∀ p ∈ pre_counts_Shifted p0 p1, p) (h : K (s_counts_Shifted p0 p1)) : w_counts_Shifted p0 p1 K := by
  unfold w_counts_Shifted
  unfold s_counts_Shifted at h
  obtain ⟨hp0, hp1, hp2, hp3, _⟩ := conj_of hp
  exact ⟨(lenOk_of 2 rfl (by decide)), (br' h (fun e0 h => h)
    (fun e0 h => ⟨(hp0 e0), ⟨(hp1 e0), ⟨(hp2 e0), (Exists.imp (fun n hn => loop_mono (fun y k k' hk hy => ⟨fun e1 => ⟨(hy.1 e1).1, ⟨(hy.1 e1).2.1, ⟨(hy.1 e1).2.2.1, ⟨(hy.1 e1).2.2.2.1, ⟨(hy.1 e1).2.2.2.2.1, ⟨(hy.1 e1).2.2.2.2.2.1, (hk _ (hy.1 e1).2.2.2.2.2.2)⟩⟩⟩⟩⟩⟩, fun e1 => (hy.2 e1)⟩) n _ hn) (lk_counts_Shifted_0 p0 p1 ((0 : Int), (List.replicate (Int.toNat (((List.length p0) : Nat) : Int)) (0 : Int))) K (hp3 e0) h))⟩⟩⟩))⟩
abbrev t_counts_Shifted (p0 : List Int) (p1 : Int) : List Int × Int := cond ((v_spec p0).2 != 0) ([], (v_spec p0).2) (cond (s_counts_within p1 (-64) 64) (v_shifted p0 p1, 0) ([], 2))
abbrev qre_counts_Shifted (_ : List Int) (_ : Int) : List Prop := []
theorem tx_shiftok {p0 : List Int} {p1 : Int} (h : (s_counts_first ((v_spec p0).2 :: s_counts_unless (s_counts_within p1 (-64) 64) 2 :: []) != 0) = false) : v_spectrum p0 ∧ -64 ≤ p1 ∧ p1 ≤ 64 := by
  obtain ⟨h1, h2⟩ := tx_first0 (bne0 h)
  obtain ⟨h2, _⟩ := tx_first0 h2
  exact ⟨tx_spectrum h1, tx_within.1 (tx_unless0 (by decide) h2)⟩
theorem pp_counts_Shifted (p0 : List Int) (p1 : Int) (_ : ∀ p ∈ qre_counts_Shifted p0 p1, p) : ∀ p ∈ pre_counts_Shifted p0 p1, p := by
  intro p hp
  simp only [pre_counts_Shifted, List.mem_cons, List.not_mem_nil, or_false] at hp
  rcases hp with rfl | rfl | rfl | rfl
  all_goals
    intro h
    obtain ⟨hs, hd⟩ := tx_shiftok h
    have := hs.len
    first | omega | exact ⟨hs.len, hd, rfl⟩
theorem tt_counts_Shifted (p0 : List Int) (p1 : Int) (_ : ∀ p ∈ qre_counts_Shifted p0 p1, p) : s_counts_Shifted p0 p1 = t_counts_Shifted p0 p1 := by
  unfold s_counts_Shifted t_counts_Shifted
  have e : s_counts_first ((v_spec p0).2 :: s_counts_unless (s_counts_within p1 (-64) 64) 2 :: []) = cond ((v_spec p0).2 != 0) (v_spec p0).2 (cond (s_counts_within p1 (-64) 64) 0 2) := by
    show (if (v_spec p0).2 = 0 then _ else _) = _
    by_cases h : (v_spec p0).2 = 0
    · rw [if_pos h, h]; cases s_counts_within p1 (-64) 64 <;> rfl
    · rw [if_neg h, show ((v_spec p0).2 != 0) = true from bne_iff_ne.2 h]; rfl
  rw [e]
  rcases hb : ((v_spec p0).2 != 0) with _ | _
  · cases s_counts_within p1 (-64) 64 <;> rfl
  · show cond ((v_spec p0).2 != 0) _ _ = _
    rw [hb]; rfl

abbrev con_counts_Shifted : Con := ⟨P_counts_Shifted, R_counts_Shifted, fun x => qre_counts_Shifted x.1 x.2, fun x => t_counts_Shifted x.1 x.2⟩
theorem ok_counts_Shifted : ConOk Try.prog 52 con_counts_Shifted := ⟨k_counts_Shifted, fun x hx => ret_tf (ps := P_counts_Shifted) (rs := R_counts_Shifted) (x := x) (y := t_counts_Shifted x.1 x.2) e_counts_Shifted hC_counts_Shifted (tf_of (w_counts_Shifted_eq x.1 x.2 (fun z => z = t_counts_Shifted x.1 x.2)) (d_counts_Shifted x.1 x.2 (fun z => z = t_counts_Shifted x.1 x.2) (pp_counts_Shifted x.1 x.2 hx) (tt_counts_Shifted x.1 x.2 hx)))⟩
theorem shift_len (n d : Int) : ∀ (r : List Int) (i : Int) (out : List Int), (sp_shift n d i r out).length = out.length
  | [], _, _ => rfl
  | x :: r, i, out => by unfold sp_shift; rw [shift_len n d r, List.length_set]
theorem shift_get (n d : Int) (hn : 1 ≤ n) (k : Nat) : ∀ (r : List Int) (i : Int) (out : List Int), (out.length : Int) = n → (∀ x ∈ r, 0 ≤ x ∧ x ≤ 100000) → (∀ k, 0 ≤ out.getD k 0 ∧ out.getD k 0 + 100000 * r.length ≤ 1000000000) →
    (sp_shift n d i r out).getD k 0 = out.getD k 0 + v_pick (fun i => v_clamp n (i + d) == (k : Int)) i r ∧ v_sum (sp_shift n d i r out) = v_sum out + v_sum r ∧ ∀ k, 0 ≤ (sp_shift n d i r out).getD k 0
  | [], i, out, _, _, h => by simp only [sp_shift, v_pick, v_sum]; exact ⟨by omega, by omega, fun k => (h k).1⟩
  | x :: r, i, out, hl, hr, ho => by
    have hx := hr x (by simp)
    have hc := v_clamp_in (n := n) (x := i + d) hn
    have hlt : (v_clamp n (i + d)).toNat < out.length := by omega
    have hoc := ho (v_clamp n (i + d)).toNat
    rw [List.length_cons] at ho hoc
    have ew : IntKind.i64.wrap (out.getD (v_clamp n (i + d)).toNat 0 + x) = out.getD (v_clamp n (i + d)).toNat 0 + x := wrap_id (by omega) (by omega)
    obtain ⟨g1, g2, g3⟩ := shift_get n d hn k r (i + 1) (out.set (v_clamp n (i + d)).toNat (out.getD (v_clamp n (i + d)).toNat 0 + x)) (by rw [List.length_set]; exact hl) (fun y hy => hr y (by simp [hy])) (fun j => by
      rw [getDset _ hlt]
      have := ho j
      split
      · omega
      · omega)
    unfold sp_shift
    rw [ew]
    refine ⟨?_, ?_, g3⟩
    · rw [g1, getDset _ hlt]
      simp only [v_pick]
      by_cases hk : k = (v_clamp n (i + d)).toNat
      · rw [if_pos hk, if_pos (show (v_clamp n (i + d) == (k : Int)) = true from beq_iff_eq.2 (by omega)), hk]; omega
      · rw [if_neg hk, if_neg (show ¬ (v_clamp n (i + d) == (k : Int)) = true from fun e => hk (by have := beq_iff_eq.1 e; omega))]; omega
    · rw [g2, v_sum_set _ hlt]; simp only [v_sum]; omega
theorem v_sum_rep (n : Nat) : v_sum (List.replicate n 0) = 0 := by
  induction n with
  | zero => rfl
  | succ n ih => rw [List.replicate_succ]; simp only [v_sum, ih]; rfl
theorem getD_rep (n k : Nat) : (List.replicate n (0 : Int)).getD k 0 = 0 := by
  rw [List.getD, List.getElem?_replicate]
  split <;> rfl
theorem shifted_facts {l : List Int} (d : Int) (hs : v_spectrum l) : (v_shifted l d).length = l.length ∧ v_sum (v_shifted l d) = v_sum l ∧ (∀ k, 0 ≤ (v_shifted l d).getD k 0) ∧ ∀ k : Nat, (v_shifted l d).getD k 0 = v_pick (fun i => v_clamp l.length (i + d) == (k : Int)) 0 l := by
  have hl := hs.len
  have key := fun k : Nat => shift_get l.length d (by omega) k l 0 (List.replicate l.length 0) (by simp) hs.all (fun j => by rw [getD_rep]; omega)
  refine ⟨by unfold v_shifted; rw [shift_len, List.length_replicate], ?_, (key 0).2.2, fun k => ?_⟩
  · have := (key 0).2.1
    rw [v_sum_rep, Int.zero_add] at this
    exact this
  · have := (key k).1
    rw [getD_rep, Int.zero_add] at this
    exact this
theorem ext_getD {a b : List Int} (h : a.length = b.length) (hk : ∀ k : Nat, k < a.length → a.getD k 0 = b.getD k 0) : a = b := by
  refine List.ext_getElem h (fun k h1 h2 => ?_)
  have := hk k h1
  rw [List.getD, List.getElem?_eq_getElem h1, List.getD, List.getElem?_eq_getElem h2] at this
  exact this
theorem shift_one {l : List Int} {d : Int} (hs : v_spectrum l) (free : ∀ i : Nat, i < l.length → l.getD i 0 = 0 ∨ (0 ≤ (i : Int) + d ∧ (i : Int) + d ≤ l.length - 1)) (k : Nat) (hk : k < l.length) :
    (v_shifted l d).getD k 0 = if 0 ≤ (k : Int) - d ∧ (k : Int) - d < l.length then l.getD ((k : Int) - d).toNat 0 else 0 := by
  have hl := hs.len
  rw [(shifted_facts d hs).2.2.2 k, v_pick_is _ ((k : Int) - d) l 0 (fun j hj hp hx => by
    have hp := beq_iff_eq.1 hp
    rcases free j hj with h | h
    · exact (hx h).elim
    · unfold v_clamp at hp; omega)]
  have hp : (v_clamp l.length ((k : Int) - d + d) == (k : Int)) = true := beq_iff_eq.2 (by unfold v_clamp; omega)
  rw [Int.zero_add, Int.sub_zero]
  by_cases hc : 0 ≤ (k : Int) - d ∧ (k : Int) - d < l.length
  · rw [if_pos ⟨hc.1, hc.2, hp⟩, if_pos hc]
  · rw [if_neg (fun h => hc ⟨h.1, h.2.1⟩), if_neg hc]
/-- Shifted back, without counts at its ends, it is the same. -/
theorem shift_back {l : List Int} {d : Int} (hs : v_spectrum l) (hm : v_spectrum (v_shifted l d)) (free : ∀ i : Nat, i < l.length → l.getD i 0 = 0 ∨ (0 ≤ (i : Int) + d ∧ (i : Int) + d ≤ l.length - 1)) : v_shifted (v_shifted l d) (-d) = l := by
  have hl := hs.len
  have el := (shifted_facts d hs).1
  have el2 := (shifted_facts (-d) hm).1
  refine ext_getD (by omega) (fun k hk => ?_)
  rw [shift_one hm (fun i hi => by
    rw [shift_one hs free i (by omega), el]
    by_cases hc : 0 ≤ (i : Int) - d ∧ (i : Int) - d < l.length
    · right; omega
    · left; rw [if_neg hc]) k (by omega), el]
  by_cases hc : 0 ≤ (k : Int) - -d ∧ (k : Int) - -d < l.length
  · rw [if_pos hc, shift_one hs free _ (by omega)]
    rw [if_pos (by omega)]
    congr 1
    omega
  · rw [if_neg hc]
    rcases free k (by omega) with h | h
    · exact h.symm
    · omega
/- ref06_CheckSpectrum -/
def C_ref06_CheckSpectrum : Cons := [(40, [], con_base_Within)]
theorem hC_ref06_CheckSpectrum : ConsOk Try.prog C_ref06_CheckSpectrum := ConsOk.cons ok_base_Within <| ConsOk.nil
def w_ref06_CheckSpectrum (p0 : (List Int)) (K : (Int × Int) → Prop) : Prop :=
  (((((((List.length p0) : Nat) : Int) == (0 : Int)) = true) →
  (K ((0 : Int), (10 : Int)))) ∧
  ((((((List.length p0) : Nat) : Int) == (0 : Int)) = false) →
  ((((decide ((((List.length p0) : Nat) : Int) > (64 : Int))) = true) →
    (K ((0 : Int), (8 : Int)))) ∧
    (((decide ((((List.length p0) : Nat) : Int) > (64 : Int))) = false) →
    (∃ n0, (loopP (fun (y1 : Int) k2 =>
        ((((decide (y1 < (((List.length p0) : Nat) : Int))) = true) →
        (((0 : Int) ≤ y1) ∧
          ((y1 < (((List.length p0) : Nat) : Int)) ∧
          ((((!(s_base_Within (List.getD p0 (Int.toNat y1) (0 : Int)) (0 : Int) (100000 : Int))) = true) →
          (K (y1, (2 : Int)))) ∧
          (((!(s_base_Within (List.getD p0 (Int.toNat y1) (0 : Int)) (0 : Int) (100000 : Int))) = false) →
          (k2 (Go.IntKind.wrap .i64 (y1 + (1 : Int))))))))) ∧
        (((decide (y1 < (((List.length p0) : Nat) : Int))) = false) →
        (K ((0 : Int), (0 : Int)))))) n0 (0 : Int)))))))
set_option maxHeartbeats 4000000 in
theorem w_ref06_CheckSpectrum_eq (p0 : (List Int)) (K : (Int × Int) → Prop) : tfn F_ref06_CheckSpectrum A_ref06_CheckSpectrum C_ref06_CheckSpectrum P_ref06_CheckSpectrum R_ref06_CheckSpectrum p0 K = w_ref06_CheckSpectrum p0 K := by kernel_rfl
def b_ref06_CheckSpectrum_0 (p0 : (List Int)) (K : (Int × Int) → Prop) (y : Int) (k : Int → Prop) : Prop :=
  (((decide (y < (((List.length p0) : Nat) : Int))) = true →
    (((0 : Int) ≤ y) ∧
    ((y < (((List.length p0) : Nat) : Int)) ∧
    (((!(s_base_Within (List.getD p0 (Int.toNat y) (0 : Int)) (0 : Int) (100000 : Int))) = true →
      (K (y, (2 : Int)))) ∧
    ((!(s_base_Within (List.getD p0 (Int.toNat y) (0 : Int)) (0 : Int) (100000 : Int))) = false →
      (k (Go.IntKind.wrap .i64 (y + (1 : Int))))))))) ∧
  ((decide (y < (((List.length p0) : Nat) : Int))) = false →
    (K ((0 : Int), (0 : Int)))))
def lp_ref06_CheckSpectrum_0 (p0 : List Int) (_ : Int) : Int × Int := v_bad 0 p0
abbrev lpre_ref06_CheckSpectrum_0 (p0 : List Int) (x : Int) : Prop := lenOk p0 ∧ x = 0
theorem v_bad_cons {i x : Int} {r : List Int} (hi : 0 ≤ i) : v_bad i (x :: r) = cond (!s_base_Within x 0 100000) (i, 2) (v_bad (i + 1) r) := by
  unfold v_bad
  rw [show sp_out 100000 i (x :: r) = if s_counts_allWithin_1 x 100000 = true then i else sp_out 100000 (i + 1) r from rfl, tx_eqw]
  by_cases hx : s_counts_allWithin_1 x 100000 = true
  · rw [if_pos hx, show (!s_counts_within x 0 100000) = true from hx, decide_eq_true (show i ≥ 0 from hi)]; rfl
  · rw [if_neg hx, show (!s_counts_within x 0 100000) = false from (Bool.not_eq_true _).mp hx]; rfl
theorem lk_ref06_CheckSpectrum_0 (p0 : List Int) (x : Int) (K : Int × Int → Prop) (hp : lpre_ref06_CheckSpectrum_0 p0 x) (h : K (lp_ref06_CheckSpectrum_0 p0 x)) : ∃ n, loopP (b_ref06_CheckSpectrum_0 p0 K) n x := by
  obtain ⟨hl, rfl⟩ := hp
  refine loop_list0 p0 0 (fun r => K (v_bad ((p0.length : Int) - r.length) r)) ?_ ?_ (by simpa [lp_ref06_CheckSpectrum_0] using h)
  · intro k hI
    unfold b_ref06_CheckSpectrum_0
    simpa [v_bad, sp_out] using hI
  · intro j k hj hI hk
    have hj' : (j : Int) < p0.length := by omega
    unfold b_ref06_CheckSpectrum_0
    rw [wrap_nat (by omega)]
    have e1 : (p0.length : Int) - ((p0.getD j 0 :: p0.drop (j + 1)).length : Int) = j := by simp; omega
    have e2 : (p0.length : Int) - ((p0.drop (j + 1)).length : Int) = (j : Int) + 1 := by simp; omega
    rw [e1, v_bad_cons (by omega)] at hI
    rw [e2] at hk
    simp only [hj', decide_true, Int.toNat_natCast, forall_const, Bool.true_eq_false, false_imp_iff, and_true]
    refine ⟨by omega, trivial, fun hx => ?_, fun hx => hk ?_⟩
    · rw [hx] at hI; exact hI
    · rw [hx] at hI; exact hI

def s_ref06_CheckSpectrum (p0 : (List Int)) : (Int × Int) :=
  (cond ((((List.length p0) : Nat) : Int) == (0 : Int)) ((0 : Int), (10 : Int))
    (cond (decide ((((List.length p0) : Nat) : Int) > (64 : Int))) ((0 : Int), (8 : Int))
    (lp_ref06_CheckSpectrum_0 p0 (0 : Int))))
abbrev pre_ref06_CheckSpectrum (p0 : (List Int)) : List Prop := [((((((List.length p0) : Nat) : Int) == (0 : Int)) = false) → (((decide ((((List.length p0) : Nat) : Int) > (64 : Int))) = false) → (lpre_ref06_CheckSpectrum_0 p0 (0 : Int))))]
set_option maxHeartbeats 4000000 in
theorem d_ref06_CheckSpectrum (p0 : (List Int)) (K : (Int × Int) → Prop) (hp : ∀ p ∈ pre_ref06_CheckSpectrum p0, p) (h : K (s_ref06_CheckSpectrum p0)) : w_ref06_CheckSpectrum p0 K := by
  unfold w_ref06_CheckSpectrum
  unfold s_ref06_CheckSpectrum at h
  obtain ⟨hp0, _⟩ := conj_of hp
  exact (br' h (fun e0 h => h)
    (fun e0 h => (br' h (fun e1 h => h)
    (fun e1 h => (Exists.imp (fun n hn => loop_mono (fun y k k' hk hy => ⟨fun e2 => ⟨(hy.1 e2).1, ⟨(hy.1 e2).2.1, ⟨fun e3 => ((hy.1 e2).2.2.1 e3), fun e3 => (hk _ ((hy.1 e2).2.2.2 e3))⟩⟩⟩, fun e2 => (hy.2 e2)⟩) n _ hn) (lk_ref06_CheckSpectrum_0 p0 (0 : Int) K (hp0 e0 e1) h))))))
abbrev t_ref06_CheckSpectrum (p0 : List Int) : Int × Int := v_spec p0
abbrev qre_ref06_CheckSpectrum (_ : List Int) : List Prop := []
theorem pp_ref06_CheckSpectrum (p0 : List Int) (_ : ∀ p ∈ qre_ref06_CheckSpectrum p0, p) : ∀ p ∈ pre_ref06_CheckSpectrum p0, p := by
  intro p hp
  simp only [pre_ref06_CheckSpectrum, List.mem_cons, List.not_mem_nil, or_false] at hp
  subst hp
  intro _ h
  have := of_decide_eq_false h
  exact ⟨by unfold lenOk; omega, rfl⟩
theorem tt_ref06_CheckSpectrum (p0 : List Int) (_ : ∀ p ∈ qre_ref06_CheckSpectrum p0, p) : s_ref06_CheckSpectrum p0 = t_ref06_CheckSpectrum p0 := rfl

abbrev con_ref06_CheckSpectrum : Con := ⟨P_ref06_CheckSpectrum, R_ref06_CheckSpectrum, fun x => qre_ref06_CheckSpectrum x, fun x => t_ref06_CheckSpectrum x⟩
theorem ok_ref06_CheckSpectrum : ConOk Try.prog 57 con_ref06_CheckSpectrum := ⟨k_ref06_CheckSpectrum, fun x hx => ret_tf (ps := P_ref06_CheckSpectrum) (rs := R_ref06_CheckSpectrum) (x := x) (y := t_ref06_CheckSpectrum x) e_ref06_CheckSpectrum hC_ref06_CheckSpectrum (tf_of (w_ref06_CheckSpectrum_eq x (fun z => z = t_ref06_CheckSpectrum x)) (d_ref06_CheckSpectrum x (fun z => z = t_ref06_CheckSpectrum x) (pp_ref06_CheckSpectrum x hx) (tt_ref06_CheckSpectrum x hx)))⟩
/- ref06_SpectrumErr -/
def C_ref06_SpectrumErr : Cons := [(57, [], con_ref06_CheckSpectrum)]
theorem hC_ref06_SpectrumErr : ConsOk Try.prog C_ref06_SpectrumErr := ConsOk.cons ok_ref06_CheckSpectrum <| ConsOk.nil
def w_ref06_SpectrumErr (p0 : (List Int)) (K : Int → Prop) : Prop :=
  (K (v_spec p0).2)
set_option maxHeartbeats 4000000 in
theorem w_ref06_SpectrumErr_eq (p0 : (List Int)) (K : Int → Prop) : tfn F_ref06_SpectrumErr A_ref06_SpectrumErr C_ref06_SpectrumErr P_ref06_SpectrumErr R_ref06_SpectrumErr p0 K = w_ref06_SpectrumErr p0 K := by kernel_rfl
def s_ref06_SpectrumErr (p0 : (List Int)) : Int :=
  (v_spec p0).2
abbrev pre_ref06_SpectrumErr (p0 : (List Int)) : List Prop := []
set_option maxHeartbeats 4000000 in
theorem d_ref06_SpectrumErr (p0 : (List Int)) (K : Int → Prop) (hp : ∀ p ∈ pre_ref06_SpectrumErr p0, p) (h : K (s_ref06_SpectrumErr p0)) : w_ref06_SpectrumErr p0 K := by
  unfold w_ref06_SpectrumErr
  unfold s_ref06_SpectrumErr at h
  exact h
abbrev con_ref06_SpectrumErr : Con := ⟨P_ref06_SpectrumErr, R_ref06_SpectrumErr, fun x => pre_ref06_SpectrumErr x, fun x => s_ref06_SpectrumErr x⟩
theorem ok_ref06_SpectrumErr : ConOk Try.prog 49 con_ref06_SpectrumErr := ⟨k_ref06_SpectrumErr, fun x hx => ret_tf (ps := P_ref06_SpectrumErr) (rs := R_ref06_SpectrumErr) (x := x) (y := s_ref06_SpectrumErr x) e_ref06_SpectrumErr hC_ref06_SpectrumErr (tf_of (w_ref06_SpectrumErr_eq x (fun z => z = s_ref06_SpectrumErr x)) (d_ref06_SpectrumErr x (fun z => z = s_ref06_SpectrumErr x) hx rfl))⟩
/- ref06_WindowErr -/
def C_ref06_WindowErr : Cons := [(40, [], con_base_Within)]
theorem hC_ref06_WindowErr : ConsOk Try.prog C_ref06_WindowErr := ConsOk.cons ok_base_Within <| ConsOk.nil
def w_ref06_WindowErr (p0 : (List Int)) (p1 : (Int × Int)) (K : Int → Prop) : Prop :=
  ((((!(s_base_Within p1.1 (0 : Int) (Go.IntKind.wrap .i64 ((((List.length p0) : Nat) : Int) - (1 : Int))))) = false) →
  ((!(s_base_Within p1.1 (0 : Int) (Go.IntKind.wrap .i64 ((((List.length p0) : Nat) : Int) - (1 : Int))))) = (!(s_base_Within p1.1 (0 : Int) (Go.IntKind.wrap .i64 ((((List.length p0) : Nat) : Int) - (1 : Int))))))) ∧
  ((((!(s_base_Within p1.1 (0 : Int) (Go.IntKind.wrap .i64 ((((List.length p0) : Nat) : Int) - (1 : Int))))) = false) →
  ((!(s_base_Within p1.1 (0 : Int) (Go.IntKind.wrap .i64 ((((List.length p0) : Nat) : Int) - (1 : Int))))) = (!(s_base_Within p1.1 (0 : Int) (Go.IntKind.wrap .i64 ((((List.length p0) : Nat) : Int) - (1 : Int))))))) ∧
  ((((!(s_base_Within p1.1 (0 : Int) (Go.IntKind.wrap .i64 ((((List.length p0) : Nat) : Int) - (1 : Int))))) = false) →
  ((!(s_base_Within p1.1 (0 : Int) (Go.IntKind.wrap .i64 ((((List.length p0) : Nat) : Int) - (1 : Int))))) = (!(s_base_Within p1.1 (0 : Int) (Go.IntKind.wrap .i64 ((((List.length p0) : Nat) : Int) - (1 : Int))))))) ∧
  ((((!(s_base_Within p1.1 (0 : Int) (Go.IntKind.wrap .i64 ((((List.length p0) : Nat) : Int) - (1 : Int))))) = false) →
  ((!(s_base_Within p1.1 (0 : Int) (Go.IntKind.wrap .i64 ((((List.length p0) : Nat) : Int) - (1 : Int))))) = (!(s_base_Within p1.1 (0 : Int) (Go.IntKind.wrap .i64 ((((List.length p0) : Nat) : Int) - (1 : Int))))))) ∧
  ((((!(s_base_Within p1.1 (0 : Int) (Go.IntKind.wrap .i64 ((((List.length p0) : Nat) : Int) - (1 : Int))))) = false) →
  ((!(s_base_Within p1.1 (0 : Int) (Go.IntKind.wrap .i64 ((((List.length p0) : Nat) : Int) - (1 : Int))))) = (!(s_base_Within p1.1 (0 : Int) (Go.IntKind.wrap .i64 ((((List.length p0) : Nat) : Int) - (1 : Int))))))) ∧
  ((((!(s_base_Within p1.1 (0 : Int) (Go.IntKind.wrap .i64 ((((List.length p0) : Nat) : Int) - (1 : Int))))) = false) →
  ((!(s_base_Within p1.1 (0 : Int) (Go.IntKind.wrap .i64 ((((List.length p0) : Nat) : Int) - (1 : Int))))) = (!(s_base_Within p1.1 (0 : Int) (Go.IntKind.wrap .i64 ((((List.length p0) : Nat) : Int) - (1 : Int))))))) ∧
  (((!(s_base_Within p1.1 (0 : Int) (Go.IntKind.wrap .i64 ((((List.length p0) : Nat) : Int) - (1 : Int))))) = (!(s_base_Within p1.1 (0 : Int) (Go.IntKind.wrap .i64 ((((List.length p0) : Nat) : Int) - (1 : Int)))))) ∧
  ((((cond (!(s_base_Within p1.1 (0 : Int) (Go.IntKind.wrap .i64 ((((List.length p0) : Nat) : Int) - (1 : Int))))) true (!(s_base_Within p1.2 (0 : Int) (Go.IntKind.wrap .i64 ((((List.length p0) : Nat) : Int) - (1 : Int)))))) = true) →
  (K (6 : Int))) ∧
  (((cond (!(s_base_Within p1.1 (0 : Int) (Go.IntKind.wrap .i64 ((((List.length p0) : Nat) : Int) - (1 : Int))))) true (!(s_base_Within p1.2 (0 : Int) (Go.IntKind.wrap .i64 ((((List.length p0) : Nat) : Int) - (1 : Int)))))) = false) →
  ((((decide (p1.1 > p1.2)) = true) →
    (K (9 : Int))) ∧
    (((decide (p1.1 > p1.2)) = false) →
    (K (0 : Int)))))))))))))
set_option maxHeartbeats 4000000 in
theorem w_ref06_WindowErr_eq (p0 : (List Int)) (p1 : (Int × Int)) (K : Int → Prop) : tfn F_ref06_WindowErr A_ref06_WindowErr C_ref06_WindowErr P_ref06_WindowErr R_ref06_WindowErr (p0, p1) K = w_ref06_WindowErr p0 p1 K := by kernel_rfl
def s_ref06_WindowErr (p0 : (List Int)) (p1 : (Int × Int)) : Int :=
  (cond (cond (!(s_base_Within p1.1 (0 : Int) (Go.IntKind.wrap .i64 ((((List.length p0) : Nat) : Int) - (1 : Int))))) true (!(s_base_Within p1.2 (0 : Int) (Go.IntKind.wrap .i64 ((((List.length p0) : Nat) : Int) - (1 : Int)))))) (6 : Int)
    (cond (decide (p1.1 > p1.2)) (9 : Int)
    (0 : Int)))
abbrev pre_ref06_WindowErr (p0 : (List Int)) (p1 : (Int × Int)) : List Prop := []
set_option maxHeartbeats 4000000 in
theorem d_ref06_WindowErr (p0 : (List Int)) (p1 : (Int × Int)) (K : Int → Prop) (hp : ∀ p ∈ pre_ref06_WindowErr p0 p1, p) (h : K (s_ref06_WindowErr p0 p1)) : w_ref06_WindowErr p0 p1 K := by
  unfold w_ref06_WindowErr
  unfold s_ref06_WindowErr at h
  exact ⟨(fun _ => rfl), ⟨(fun _ => rfl), ⟨(fun _ => rfl), ⟨(fun _ => rfl), ⟨(fun _ => rfl), ⟨(fun _ => rfl), ⟨rfl, (br' h (fun e0 h => h)
    (fun e0 h => (br' h (fun e1 h => h)
    (fun e1 h => h))))⟩⟩⟩⟩⟩⟩⟩
abbrev t_ref06_WindowErr (p0 : List Int) (p1 : Int × Int) : Int := s_counts_windowErr p1 p0.length (-1)
abbrev qre_ref06_WindowErr (p0 : List Int) (_ : Int × Int) : List Prop := [v_spectrum p0]
theorem pp_ref06_WindowErr (p0 : List Int) (p1 : Int × Int) (_ : ∀ p ∈ qre_ref06_WindowErr p0 p1, p) : ∀ p ∈ pre_ref06_WindowErr p0 p1, p := by
  intro p hp
  simp only [pre_ref06_WindowErr, List.not_mem_nil] at hp
/-- The error of a window behind another one. -/
theorem tx_winerr (x : Int × Int) (n a : Int) : s_counts_windowErr x n a = cond (cond (!s_counts_within x.1 0 (IntKind.i64.wrap (n - 1))) true (!s_counts_within x.2 0 (IntKind.i64.wrap (n - 1)))) 6 (cond (decide (x.1 > x.2)) 9 (cond (decide (x.1 ≤ a)) 9 0)) := by
  have e : s_counts_windowErr x n a = s_counts_first (s_counts_unless (cond (s_counts_within x.1 0 (IntKind.i64.wrap (n - 1))) (s_counts_within x.2 0 (IntKind.i64.wrap (n - 1))) false) 6 :: s_counts_unless (cond (decide (x.1 ≤ x.2)) (decide (x.1 > a)) false) 9 :: []) := rfl
  rw [e, tx_err _ _ _ (by decide), tx_err _ _ _ (by decide)]
  have e1 : decide (x.1 ≤ x.2) = !decide (x.1 > x.2) := by by_cases h : x.1 > x.2 <;> simp [h] <;> omega
  have e2 : decide (x.1 > a) = !decide (x.1 ≤ a) := by by_cases h : x.1 ≤ a <;> simp [h] <;> omega
  rw [e1, e2]
  cases s_counts_within x.1 0 (IntKind.i64.wrap (n - 1)) <;> cases s_counts_within x.2 0 (IntKind.i64.wrap (n - 1)) <;> cases decide (x.1 > x.2) <;> cases decide (x.1 ≤ a) <;> rfl
theorem tt_ref06_WindowErr (p0 : List Int) (p1 : Int × Int) (_ : ∀ p ∈ qre_ref06_WindowErr p0 p1, p) : s_ref06_WindowErr p0 p1 = t_ref06_WindowErr p0 p1 := by
  unfold s_ref06_WindowErr t_ref06_WindowErr
  rw [tx_winerr, tx_eqw, tx_eqw]
  rcases h1 : s_counts_within p1.1 0 (IntKind.i64.wrap ((p0.length : Int) - 1)) with _ | _
  · rfl
  · rw [tx_within] at h1
    rw [show decide (p1.1 ≤ -1) = false from decide_eq_false (by omega)]
    rfl

abbrev con_ref06_WindowErr : Con := ⟨P_ref06_WindowErr, R_ref06_WindowErr, fun x => qre_ref06_WindowErr x.1 x.2, fun x => t_ref06_WindowErr x.1 x.2⟩
theorem ok_ref06_WindowErr : ConOk Try.prog 60 con_ref06_WindowErr := ⟨k_ref06_WindowErr, fun x hx => ret_tf (ps := P_ref06_WindowErr) (rs := R_ref06_WindowErr) (x := x) (y := t_ref06_WindowErr x.1 x.2) e_ref06_WindowErr hC_ref06_WindowErr (tf_of (w_ref06_WindowErr_eq x.1 x.2 (fun z => z = t_ref06_WindowErr x.1 x.2)) (d_ref06_WindowErr x.1 x.2 (fun z => z = t_ref06_WindowErr x.1 x.2) (pp_ref06_WindowErr x.1 x.2 hx) (tt_ref06_WindowErr x.1 x.2 hx)))⟩
/- ref06_CheckWindows -/
def C_ref06_CheckWindows : Cons := [(49, [], con_ref06_SpectrumErr), (60, [], con_ref06_WindowErr)]
theorem hC_ref06_CheckWindows : ConsOk Try.prog C_ref06_CheckWindows := ConsOk.cons ok_ref06_SpectrumErr <| ConsOk.cons ok_ref06_WindowErr <| ConsOk.nil
def w_ref06_CheckWindows (p0 : (List Int)) (p1 : ((Int × Int) × ((Int × Int) × (Int × Int)))) (K : (Int × Int) → Prop) : Prop :=
  (((((v_spec p0).2 != (0 : Int)) = true) →
  (K ((0 : Int), (v_spec p0).2))) ∧
  ((((v_spec p0).2 != (0 : Int)) = false) →
  (∃ n0, (loopP (fun (y1 : Int) k2 =>
      ((((decide (y1 < (3 : Int))) = true) →
      (((0 : Int) ≤ y1) ∧
        ((y1 < (3 : Int)) ∧
        ((v_spectrum p0) ∧
        (((((s_counts_windowErr ((List.getD (p1.1.1 :: (p1.2.1.1 :: (p1.2.2.1 :: ([] : List Int)))) (Int.toNat y1) (0 : Int)), (List.getD (p1.1.2 :: (p1.2.1.2 :: (p1.2.2.2 :: ([] : List Int)))) (Int.toNat y1) (0 : Int))) (((List.length p0) : Nat) : Int) (-1 : Int)) != (0 : Int)) = true) →
        (K (y1, (s_counts_windowErr ((List.getD (p1.1.1 :: (p1.2.1.1 :: (p1.2.2.1 :: ([] : List Int)))) (Int.toNat y1) (0 : Int)), (List.getD (p1.1.2 :: (p1.2.1.2 :: (p1.2.2.2 :: ([] : List Int)))) (Int.toNat y1) (0 : Int))) (((List.length p0) : Nat) : Int) (-1 : Int))))) ∧
        ((((s_counts_windowErr ((List.getD (p1.1.1 :: (p1.2.1.1 :: (p1.2.2.1 :: ([] : List Int)))) (Int.toNat y1) (0 : Int)), (List.getD (p1.1.2 :: (p1.2.1.2 :: (p1.2.2.2 :: ([] : List Int)))) (Int.toNat y1) (0 : Int))) (((List.length p0) : Nat) : Int) (-1 : Int)) != (0 : Int)) = false) →
        ((((decide (y1 > (0 : Int))) = true) →
          ((decide (y1 > (0 : Int))) = (decide (y1 > (0 : Int))))) ∧
          ((((decide (y1 > (0 : Int))) = true) →
          ((0 : Int) ≤ y1)) ∧
          ((((decide (y1 > (0 : Int))) = true) →
          (y1 < (3 : Int))) ∧
          ((((decide (y1 > (0 : Int))) = true) →
          ((decide (y1 > (0 : Int))) = (decide (y1 > (0 : Int))))) ∧
          ((((decide (y1 > (0 : Int))) = true) →
          ((decide (y1 > (0 : Int))) = (decide (y1 > (0 : Int))))) ∧
          ((((decide (y1 > (0 : Int))) = true) →
          ((decide (y1 > (0 : Int))) = (decide (y1 > (0 : Int))))) ∧
          ((((decide (y1 > (0 : Int))) = true) →
          ((decide (y1 > (0 : Int))) = (decide (y1 > (0 : Int))))) ∧
          ((((decide (y1 > (0 : Int))) = true) →
          ((0 : Int) ≤ (Go.IntKind.wrap .i64 (y1 - (1 : Int))))) ∧
          ((((decide (y1 > (0 : Int))) = true) →
          ((Go.IntKind.wrap .i64 (y1 - (1 : Int))) < (3 : Int))) ∧
          ((((decide (y1 > (0 : Int))) = true) →
          ((decide (y1 > (0 : Int))) = (decide (y1 > (0 : Int))))) ∧
          ((((decide (y1 > (0 : Int))) = true) →
          ((decide (y1 > (0 : Int))) = (decide (y1 > (0 : Int))))) ∧
          ((((decide (y1 > (0 : Int))) = true) →
          ((decide (y1 > (0 : Int))) = (decide (y1 > (0 : Int))))) ∧
          ((((decide (y1 > (0 : Int))) = true) →
          ((decide (y1 > (0 : Int))) = (decide (y1 > (0 : Int))))) ∧
          (((decide (y1 > (0 : Int))) = (decide (y1 > (0 : Int)))) ∧
          ((((cond (decide (y1 > (0 : Int))) (decide ((List.getD (p1.1.1 :: (p1.2.1.1 :: (p1.2.2.1 :: ([] : List Int)))) (Int.toNat y1) (0 : Int)) ≤ (List.getD (p1.1.2 :: (p1.2.1.2 :: (p1.2.2.2 :: ([] : List Int)))) (Int.toNat (Go.IntKind.wrap .i64 (y1 - (1 : Int)))) (0 : Int)))) false) = true) →
          (K (y1, (9 : Int)))) ∧
          (((cond (decide (y1 > (0 : Int))) (decide ((List.getD (p1.1.1 :: (p1.2.1.1 :: (p1.2.2.1 :: ([] : List Int)))) (Int.toNat y1) (0 : Int)) ≤ (List.getD (p1.1.2 :: (p1.2.1.2 :: (p1.2.2.2 :: ([] : List Int)))) (Int.toNat (Go.IntKind.wrap .i64 (y1 - (1 : Int)))) (0 : Int)))) false) = false) →
          (k2 (Go.IntKind.wrap .i64 (y1 + (1 : Int)))))))))))))))))))))))))) ∧
      (((decide (y1 < (3 : Int))) = false) →
      (K ((0 : Int), (0 : Int)))))) n0 (0 : Int)))))
set_option maxHeartbeats 4000000 in
theorem w_ref06_CheckWindows_eq (p0 : (List Int)) (p1 : ((Int × Int) × ((Int × Int) × (Int × Int)))) (K : (Int × Int) → Prop) : tfn F_ref06_CheckWindows A_ref06_CheckWindows C_ref06_CheckWindows P_ref06_CheckWindows R_ref06_CheckWindows (p0, p1) K = w_ref06_CheckWindows p0 p1 K := by kernel_rfl
def s_ref06_CheckWindows (p0 : (List Int)) (p1 : ((Int × Int) × ((Int × Int) × (Int × Int)))) : (Int × Int) :=
  (cond ((v_spec p0).2 != (0 : Int)) ((0 : Int), (v_spec p0).2)
    (cond ((s_counts_windowErr p1.1 (((List.length p0) : Nat) : Int) (-1 : Int)) != (0 : Int)) ((0 : Int), (s_counts_windowErr p1.1 (((List.length p0) : Nat) : Int) (-1 : Int)))
    (cond ((s_counts_windowErr p1.2.1 (((List.length p0) : Nat) : Int) (-1 : Int)) != (0 : Int)) ((1 : Int), (s_counts_windowErr p1.2.1 (((List.length p0) : Nat) : Int) (-1 : Int)))
    (cond (decide (p1.2.1.1 ≤ p1.1.2)) ((1 : Int), (9 : Int))
    (cond ((s_counts_windowErr p1.2.2 (((List.length p0) : Nat) : Int) (-1 : Int)) != (0 : Int)) ((2 : Int), (s_counts_windowErr p1.2.2 (((List.length p0) : Nat) : Int) (-1 : Int)))
    (cond (decide (p1.2.2.1 ≤ p1.2.1.2)) ((2 : Int), (9 : Int))
    ((0 : Int), (0 : Int))))))))
abbrev pre_ref06_CheckWindows (p0 : (List Int)) (p1 : ((Int × Int) × ((Int × Int) × (Int × Int)))) : List Prop := [((((v_spec p0).2 != (0 : Int)) = false) → (v_spectrum p0)),
    ((((v_spec p0).2 != (0 : Int)) = false) → ((((s_counts_windowErr p1.1 (((List.length p0) : Nat) : Int) (-1 : Int)) != (0 : Int)) = false) → (v_spectrum p0))),
    ((((v_spec p0).2 != (0 : Int)) = false) → ((((s_counts_windowErr p1.1 (((List.length p0) : Nat) : Int) (-1 : Int)) != (0 : Int)) = false) → ((((s_counts_windowErr p1.2.1 (((List.length p0) : Nat) : Int) (-1 : Int)) != (0 : Int)) = false) → (((decide (p1.2.1.1 ≤ p1.1.2)) = false) → (v_spectrum p0)))))]
set_option maxHeartbeats 4000000 in
theorem d_ref06_CheckWindows (p0 : (List Int)) (p1 : ((Int × Int) × ((Int × Int) × (Int × Int)))) (K : (Int × Int) → Prop) (hp : ∀ p ∈ pre_ref06_CheckWindows p0 p1, p) (h : K (s_ref06_CheckWindows p0 p1)) : w_ref06_CheckWindows p0 p1 K := by
  unfold w_ref06_CheckWindows
  unfold s_ref06_CheckWindows at h
  obtain ⟨hp0, hp1, hp2, _⟩ := conj_of hp
  exact (br' h (fun e0 h => h)
    (fun e0 h => ⟨31, ⟨fun _ => ⟨(of_decide_eq_true rfl), ⟨(of_decide_eq_true rfl), ⟨(hp0 e0), (br' h (fun e1 h => h)
    (fun e1 h => ⟨(fun hc => Bool.noConfusion (show false = true from hc)), ⟨(fun hc => Bool.noConfusion (show false = true from hc)), ⟨(fun hc => Bool.noConfusion (show false = true from hc)), ⟨(fun hc => Bool.noConfusion (show false = true from hc)), ⟨(fun hc => Bool.noConfusion (show false = true from hc)), ⟨(fun hc => Bool.noConfusion (show false = true from hc)), ⟨(fun hc => Bool.noConfusion (show false = true from hc)), ⟨(fun hc => Bool.noConfusion (show false = true from hc)), ⟨(fun hc => Bool.noConfusion (show false = true from hc)), ⟨(fun hc => Bool.noConfusion (show false = true from hc)), ⟨(fun hc => Bool.noConfusion (show false = true from hc)), ⟨(fun hc => Bool.noConfusion (show false = true from hc)), ⟨(fun hc => Bool.noConfusion (show false = true from hc)), ⟨rfl, ⟨fun e => Bool.noConfusion (show false = true from e), fun _ => ⟨fun _ => ⟨(of_decide_eq_true rfl), ⟨(of_decide_eq_true rfl), ⟨(hp1 e0 e1), (br' h (fun e2 h => h)
    (fun e2 h => ⟨(fun _ => rfl), ⟨(fun _ => (of_decide_eq_true rfl)), ⟨(fun _ => (of_decide_eq_true rfl)), ⟨(fun _ => rfl), ⟨(fun _ => rfl), ⟨(fun _ => rfl), ⟨(fun _ => rfl), ⟨(fun _ => (of_decide_eq_true rfl)), ⟨(fun _ => (of_decide_eq_true rfl)), ⟨(fun _ => rfl), ⟨(fun _ => rfl), ⟨(fun _ => rfl), ⟨(fun _ => rfl), ⟨rfl, (br' h (fun e3 h => h)
    (fun e3 h => ⟨fun _ => ⟨(of_decide_eq_true rfl), ⟨(of_decide_eq_true rfl), ⟨(hp2 e0 e1 e2 e3), (br' h (fun e4 h => h)
    (fun e4 h => ⟨(fun _ => rfl), ⟨(fun _ => (of_decide_eq_true rfl)), ⟨(fun _ => (of_decide_eq_true rfl)), ⟨(fun _ => rfl), ⟨(fun _ => rfl), ⟨(fun _ => rfl), ⟨(fun _ => rfl), ⟨(fun _ => (of_decide_eq_true rfl)), ⟨(fun _ => (of_decide_eq_true rfl)), ⟨(fun _ => rfl), ⟨(fun _ => rfl), ⟨(fun _ => rfl), ⟨(fun _ => rfl), ⟨rfl, (br' h (fun e5 h => h)
    (fun e5 h => ⟨fun e => Bool.noConfusion (show false = true from e), fun _ => h⟩))⟩⟩⟩⟩⟩⟩⟩⟩⟩⟩⟩⟩⟩⟩))⟩⟩⟩, fun e => Bool.noConfusion (show true = false from e)⟩))⟩⟩⟩⟩⟩⟩⟩⟩⟩⟩⟩⟩⟩⟩))⟩⟩⟩, fun e => Bool.noConfusion (show true = false from e)⟩⟩⟩⟩⟩⟩⟩⟩⟩⟩⟩⟩⟩⟩⟩⟩))⟩⟩⟩, fun e => Bool.noConfusion (show true = false from e)⟩⟩))
abbrev t_ref06_CheckWindows (p0 : List Int) (p1 : (Int × Int) × (Int × Int) × Int × Int) : Int × Int := s_counts_CheckWindows p0 p1
abbrev qre_ref06_CheckWindows (_ : List Int) (_ : (Int × Int) × (Int × Int) × Int × Int) : List Prop := []
theorem pp_ref06_CheckWindows (p0 : List Int) (p1 : (Int × Int) × (Int × Int) × Int × Int) (_ : ∀ p ∈ qre_ref06_CheckWindows p0 p1, p) : ∀ p ∈ pre_ref06_CheckWindows p0 p1, p := by
  intro p hp
  simp only [pre_ref06_CheckWindows, List.mem_cons, List.not_mem_nil, or_false] at hp
  rcases hp with rfl | rfl | rfl
  all_goals
    intro h
    intros
    exact tx_spectrum (bne0 h)
theorem tx_wincond (x : Int × Int) (n a i : Int) (c : Int × Int) : cond (s_counts_windowErr x n (-1) != 0) (i, s_counts_windowErr x n (-1)) (cond (decide (x.1 ≤ a)) (i, 9) c) = cond (s_counts_windowErr x n a != 0) (i, s_counts_windowErr x n a) c := by
  rw [tx_winerr, tx_winerr]
  rcases h1 : s_counts_within x.1 0 (IntKind.i64.wrap (n - 1)) with _ | _
  · rfl
  · rw [tx_within] at h1
    rw [show decide (x.1 ≤ -1) = false from decide_eq_false (by omega)]
    cases s_counts_within x.2 0 (IntKind.i64.wrap (n - 1)) <;> cases decide (x.1 > x.2) <;> cases decide (x.1 ≤ a) <;> rfl
theorem tt_ref06_CheckWindows (p0 : List Int) (p1 : (Int × Int) × (Int × Int) × Int × Int) (_ : ∀ p ∈ qre_ref06_CheckWindows p0 p1, p) : s_ref06_CheckWindows p0 p1 = t_ref06_CheckWindows p0 p1 := by
  unfold s_ref06_CheckWindows t_ref06_CheckWindows s_counts_CheckWindows
  rw [tx_wincond, tx_wincond]

abbrev con_ref06_CheckWindows : Con := ⟨P_ref06_CheckWindows, R_ref06_CheckWindows, fun x => qre_ref06_CheckWindows x.1 x.2, fun x => t_ref06_CheckWindows x.1 x.2⟩
theorem ok_ref06_CheckWindows : ConOk Try.prog 58 con_ref06_CheckWindows := ⟨k_ref06_CheckWindows, fun x hx => ret_tf (ps := P_ref06_CheckWindows) (rs := R_ref06_CheckWindows) (x := x) (y := t_ref06_CheckWindows x.1 x.2) e_ref06_CheckWindows hC_ref06_CheckWindows (tf_of (w_ref06_CheckWindows_eq x.1 x.2 (fun z => z = t_ref06_CheckWindows x.1 x.2)) (d_ref06_CheckWindows x.1 x.2 (fun z => z = t_ref06_CheckWindows x.1 x.2) (pp_ref06_CheckWindows x.1 x.2 hx) (tt_ref06_CheckWindows x.1 x.2 hx)))⟩
/- ref06_Sums -/
def C_ref06_Sums : Cons := [(40, [], con_base_Within)]
theorem hC_ref06_Sums : ConsOk Try.prog C_ref06_Sums := ConsOk.cons ok_base_Within <| ConsOk.nil
def w_ref06_Sums (p0 : (List Int)) (p1 : ((Int × Int) × ((Int × Int) × (Int × Int)))) (K : ((Int × (Int × Int)) × Int) → Prop) : Prop :=
  (∃ n0, (loopP (fun (y1 : (Int × (Int × (Int × (Int × Int))))) k2 =>
    ((((decide (y1.1 < (((List.length p0) : Nat) : Int))) = true) →
    (∃ n3, (loopP (fun (y4 : (Int × (Bool × (Int × (Int × Int))))) k5 =>
        ((((decide (y4.1 < (3 : Int))) = true) →
        (((0 : Int) ≤ y4.1) ∧
          ((y4.1 < (3 : Int)) ∧
          (((0 : Int) ≤ y4.1) ∧
          ((y4.1 < (3 : Int)) ∧
          ((((s_base_Within y1.1 (List.getD (p1.1.1 :: (p1.2.1.1 :: (p1.2.2.1 :: ([] : List Int)))) (Int.toNat y4.1) (0 : Int)) (List.getD (p1.1.2 :: (p1.2.1.2 :: (p1.2.2.2 :: ([] : List Int)))) (Int.toNat y4.1) (0 : Int))) = true) →
          (((0 : Int) ≤ y4.1) ∧
            ((y4.1 < (3 : Int)) ∧
            (((0 : Int) ≤ y1.1) ∧
            ((y1.1 < (((List.length p0) : Nat) : Int)) ∧
            (((0 : Int) ≤ y4.1) ∧
            ((y4.1 < (3 : Int)) ∧
            (k5 ((Go.IntKind.wrap .i64 (y4.1 + (1 : Int))), (true, ((cond (decide (y4.1 = (0 : Int))) (Go.IntKind.wrap .i64 ((List.getD (y4.2.2.1 :: (y4.2.2.2.1 :: (y4.2.2.2.2 :: ([] : List Int)))) (Int.toNat y4.1) (0 : Int)) + (List.getD p0 (Int.toNat y1.1) (0 : Int)))) y4.2.2.1), ((cond (decide (y4.1 = (1 : Int))) (Go.IntKind.wrap .i64 ((List.getD (y4.2.2.1 :: (y4.2.2.2.1 :: (y4.2.2.2.2 :: ([] : List Int)))) (Int.toNat y4.1) (0 : Int)) + (List.getD p0 (Int.toNat y1.1) (0 : Int)))) y4.2.2.2.1), (cond (decide (y4.1 = (2 : Int))) (Go.IntKind.wrap .i64 ((List.getD (y4.2.2.1 :: (y4.2.2.2.1 :: (y4.2.2.2.2 :: ([] : List Int)))) (Int.toNat y4.1) (0 : Int)) + (List.getD p0 (Int.toNat y1.1) (0 : Int)))) y4.2.2.2.2))))))))))))) ∧
          (((s_base_Within y1.1 (List.getD (p1.1.1 :: (p1.2.1.1 :: (p1.2.2.1 :: ([] : List Int)))) (Int.toNat y4.1) (0 : Int)) (List.getD (p1.1.2 :: (p1.2.1.2 :: (p1.2.2.2 :: ([] : List Int)))) (Int.toNat y4.1) (0 : Int))) = false) →
          (k5 ((Go.IntKind.wrap .i64 (y4.1 + (1 : Int))), y4.2))))))))) ∧
        (((decide (y4.1 < (3 : Int))) = false) →
        ((((!y4.2.1) = true) →
          (((0 : Int) ≤ y1.1) ∧
            ((y1.1 < (((List.length p0) : Nat) : Int)) ∧
            (k2 ((Go.IntKind.wrap .i64 (y1.1 + (1 : Int))), ((Go.IntKind.wrap .i64 (y1.2.1 + (List.getD p0 (Int.toNat y1.1) (0 : Int)))), y4.2.2)))))) ∧
          (((!y4.2.1) = false) →
          (k2 ((Go.IntKind.wrap .i64 (y1.1 + (1 : Int))), (y1.2.1, y4.2.2)))))))) n3 ((0 : Int), (false, y1.2.2))))) ∧
    (((decide (y1.1 < (((List.length p0) : Nat) : Int))) = false) →
    (K (y1.2.2, y1.2.1))))) n0 ((0 : Int), ((0 : Int), ((0 : Int), ((0 : Int), (0 : Int)))))))
set_option maxHeartbeats 4000000 in
theorem w_ref06_Sums_eq (p0 : (List Int)) (p1 : ((Int × Int) × ((Int × Int) × (Int × Int)))) (K : ((Int × (Int × Int)) × Int) → Prop) : tfn F_ref06_Sums A_ref06_Sums C_ref06_Sums P_ref06_Sums R_ref06_Sums (p0, p1) K = w_ref06_Sums p0 p1 K := by kernel_rfl
def b_ref06_Sums_0 (p0 : (List Int)) (p1 : ((Int × Int) × ((Int × Int) × (Int × Int)))) (K : ((Int × (Int × Int)) × Int) → Prop) (y : (Int × (Int × (Int × (Int × Int))))) (k : (Int × (Int × (Int × (Int × Int)))) → Prop) : Prop :=
  (((decide (y.1 < (((List.length p0) : Nat) : Int))) = true →
    (((s_base_Within y.1 p1.1.1 p1.1.2) = true →
      (((0 : Int) ≤ y.1) ∧
      ((y.1 < (((List.length p0) : Nat) : Int)) ∧
      (((s_base_Within y.1 p1.2.1.1 p1.2.1.2) = true →
        (((0 : Int) ≤ y.1) ∧
        ((y.1 < (((List.length p0) : Nat) : Int)) ∧
        (((s_base_Within y.1 p1.2.2.1 p1.2.2.2) = true →
          (((0 : Int) ≤ y.1) ∧
          ((y.1 < (((List.length p0) : Nat) : Int)) ∧
          (k ((Go.IntKind.wrap .i64 (y.1 + (1 : Int))), (y.2.1, ((Go.IntKind.wrap .i64 (y.2.2.1 + (List.getD p0 (Int.toNat y.1) (0 : Int)))), ((Go.IntKind.wrap .i64 (y.2.2.2.1 + (List.getD p0 (Int.toNat y.1) (0 : Int)))), (Go.IntKind.wrap .i64 (y.2.2.2.2 + (List.getD p0 (Int.toNat y.1) (0 : Int)))))))))))) ∧
        ((s_base_Within y.1 p1.2.2.1 p1.2.2.2) = false →
          (k ((Go.IntKind.wrap .i64 (y.1 + (1 : Int))), (y.2.1, ((Go.IntKind.wrap .i64 (y.2.2.1 + (List.getD p0 (Int.toNat y.1) (0 : Int)))), ((Go.IntKind.wrap .i64 (y.2.2.2.1 + (List.getD p0 (Int.toNat y.1) (0 : Int)))), y.2.2.2.2)))))))))) ∧
      ((s_base_Within y.1 p1.2.1.1 p1.2.1.2) = false →
        (((s_base_Within y.1 p1.2.2.1 p1.2.2.2) = true →
          (((0 : Int) ≤ y.1) ∧
          ((y.1 < (((List.length p0) : Nat) : Int)) ∧
          (k ((Go.IntKind.wrap .i64 (y.1 + (1 : Int))), (y.2.1, ((Go.IntKind.wrap .i64 (y.2.2.1 + (List.getD p0 (Int.toNat y.1) (0 : Int)))), (y.2.2.2.1, (Go.IntKind.wrap .i64 (y.2.2.2.2 + (List.getD p0 (Int.toNat y.1) (0 : Int)))))))))))) ∧
        ((s_base_Within y.1 p1.2.2.1 p1.2.2.2) = false →
          (k ((Go.IntKind.wrap .i64 (y.1 + (1 : Int))), (y.2.1, ((Go.IntKind.wrap .i64 (y.2.2.1 + (List.getD p0 (Int.toNat y.1) (0 : Int)))), y.2.2.2))))))))))) ∧
    ((s_base_Within y.1 p1.1.1 p1.1.2) = false →
      (((s_base_Within y.1 p1.2.1.1 p1.2.1.2) = true →
        (((0 : Int) ≤ y.1) ∧
        ((y.1 < (((List.length p0) : Nat) : Int)) ∧
        (((s_base_Within y.1 p1.2.2.1 p1.2.2.2) = true →
          (((0 : Int) ≤ y.1) ∧
          ((y.1 < (((List.length p0) : Nat) : Int)) ∧
          (k ((Go.IntKind.wrap .i64 (y.1 + (1 : Int))), (y.2.1, (y.2.2.1, ((Go.IntKind.wrap .i64 (y.2.2.2.1 + (List.getD p0 (Int.toNat y.1) (0 : Int)))), (Go.IntKind.wrap .i64 (y.2.2.2.2 + (List.getD p0 (Int.toNat y.1) (0 : Int)))))))))))) ∧
        ((s_base_Within y.1 p1.2.2.1 p1.2.2.2) = false →
          (k ((Go.IntKind.wrap .i64 (y.1 + (1 : Int))), (y.2.1, (y.2.2.1, ((Go.IntKind.wrap .i64 (y.2.2.2.1 + (List.getD p0 (Int.toNat y.1) (0 : Int)))), y.2.2.2.2)))))))))) ∧
      ((s_base_Within y.1 p1.2.1.1 p1.2.1.2) = false →
        (((s_base_Within y.1 p1.2.2.1 p1.2.2.2) = true →
          (((0 : Int) ≤ y.1) ∧
          ((y.1 < (((List.length p0) : Nat) : Int)) ∧
          (k ((Go.IntKind.wrap .i64 (y.1 + (1 : Int))), (y.2.1, (y.2.2.1, (y.2.2.2.1, (Go.IntKind.wrap .i64 (y.2.2.2.2 + (List.getD p0 (Int.toNat y.1) (0 : Int)))))))))))) ∧
        ((s_base_Within y.1 p1.2.2.1 p1.2.2.2) = false →
          (((0 : Int) ≤ y.1) ∧
          ((y.1 < (((List.length p0) : Nat) : Int)) ∧
          (k ((Go.IntKind.wrap .i64 (y.1 + (1 : Int))), ((Go.IntKind.wrap .i64 (y.2.1 + (List.getD p0 (Int.toNat y.1) (0 : Int)))), y.2.2)))))))))))) ∧
  ((decide (y.1 < (((List.length p0) : Nat) : Int))) = false →
    (K (y.2.2, y.2.1))))
/-- The counts of a window as far as a number. -/
def v_part (l : List Int) (x : Int × Int) (j : Nat) : Int := v_sum (l.take (min j (x.2 + 1).toNat)) - v_sum (l.take (min j x.1.toNat))
theorem v_part_step {l : List Int} {x : Int × Int} {j : Nat} (hj : j < l.length) (h0 : 0 ≤ x.1) (h1 : x.1 ≤ x.2) : v_part l x (j + 1) = v_part l x j + (if x.1 ≤ j ∧ (j : Int) ≤ x.2 then l.getD j 0 else 0) := by
  have hs : v_sum (l.take (j + 1)) = v_sum (l.take j) + l.getD j 0 := by rw [take_snoc hj, v_sum_app]; simp [v_sum]
  unfold v_part
  by_cases ha : (j : Int) < x.1
  · rw [if_neg (by omega), show min (j + 1) (x.2 + 1).toNat = j + 1 by omega, show min (j + 1) x.1.toNat = j + 1 by omega, show min j (x.2 + 1).toNat = j by omega, show min j x.1.toNat = j by omega]; omega
  · by_cases hb : (j : Int) ≤ x.2
    · rw [if_pos (by omega), show min (j + 1) (x.2 + 1).toNat = j + 1 by omega, show min (j + 1) x.1.toNat = x.1.toNat by omega, show min j (x.2 + 1).toNat = j by omega, show min j x.1.toNat = x.1.toNat by omega, hs]; omega
    · rw [if_neg (by omega), show min (j + 1) (x.2 + 1).toNat = (x.2 + 1).toNat by omega, show min (j + 1) x.1.toNat = x.1.toNat by omega, show min j (x.2 + 1).toNat = (x.2 + 1).toNat by omega, show min j x.1.toNat = x.1.toNat by omega]; omega
theorem v_part_in {l : List Int} {x : Int × Int} (j : Nat) (hl : ∀ x ∈ l, 0 ≤ x) (h0 : 0 ≤ x.1) (h1 : x.1 ≤ x.2) : 0 ≤ v_part l x j ∧ v_part l x j ≤ v_sum l := by
  have b1 := v_sum_up hl (show min j x.1.toNat ≤ min j (x.2 + 1).toNat by omega)
  have b0 := v_sum_up hl (Nat.zero_le (min j x.1.toNat))
  have b2 : v_sum (l.take (min j (x.2 + 1).toNat)) ≤ v_sum l := by
    rcases Nat.le_total (min j (x.2 + 1).toNat) l.length with h | h
    · have := v_sum_up hl h
      rw [List.take_length] at this
      exact this
    · rw [List.take_of_length_le h]; omega
  rw [List.take_zero, show v_sum [] = 0 from rfl] at b0
  unfold v_part
  omega
def lp_ref06_Sums_0 (p0 : List Int) (p1 : (Int × Int) × (Int × Int) × Int × Int) (_ : Int × Int × Int × Int × Int) : (Int × Int × Int) × Int := ((v_win p0 p1.1, v_win p0 p1.2.1, v_win p0 p1.2.2), v_sum p0 - (v_win p0 p1.1 + v_win p0 p1.2.1 + v_win p0 p1.2.2))
abbrev lpre_ref06_Sums_0 (p0 : List Int) (p1 : (Int × Int) × (Int × Int) × Int × Int) (x : Int × Int × Int × Int × Int) : Prop := v_windows p0 p1 ∧ x = (0, 0, 0, 0, 0)
theorem lk_ref06_Sums_0 (p0 : List Int) (p1 : (Int × Int) × (Int × Int) × Int × Int) (x : Int × Int × Int × Int × Int) (K : (Int × Int × Int) × Int → Prop) (hp : lpre_ref06_Sums_0 p0 p1 x) (h : K (lp_ref06_Sums_0 p0 p1 x)) : ∃ n, loopP (b_ref06_Sums_0 p0 p1 K) n x := by
  obtain ⟨hw, rfl⟩ := hp
  have hl := hw.spec.len
  have hn : ∀ x ∈ p0, 0 ≤ x := fun x hx => (hw.spec.all x hx).1
  have hb := v_sum_in hw.spec.all
  have w0 := hw.in0
  have w1 := hw.ord1
  have w2 := hw.in1
  have w3 := hw.ord2
  have w4 := hw.in2
  have fin : ∀ x : Int × Int, 0 ≤ x.1 → x.1 ≤ x.2 → x.2 < p0.length → v_part p0 x p0.length = v_win p0 x := by
    intro x h0 h1 h2
    unfold v_part v_win
    rw [show min p0.length (x.2 + 1).toNat = (x.2 + 1).toNat by omega, show min p0.length x.1.toNat = x.1.toNat by omega]
  refine loop_list (fun i t => (i, t)) p0 0 (fun (t : Int × Int × Int × Int) r => t = (v_sum (p0.take (p0.length - r.length)) - (v_part p0 p1.1 (p0.length - r.length) + v_part p0 p1.2.1 (p0.length - r.length) + v_part p0 p1.2.2 (p0.length - r.length)), v_part p0 p1.1 (p0.length - r.length), v_part p0 p1.2.1 (p0.length - r.length), v_part p0 p1.2.2 (p0.length - r.length))) ?_ ?_ (0, 0, 0, 0) (by simp [v_part, v_sum])
  · intro t k hI
    subst hI
    unfold b_ref06_Sums_0
    rw [List.length_nil, Nat.sub_zero, fin _ w0.1 w0.2 (by omega), fin _ (by omega) w2 (by omega), fin _ (by omega) w4.1 w4.2, List.take_length]
    refine ⟨fun hj => ?_, fun _ => h⟩
    have := of_decide_eq_true hj
    simp only at this
    omega
  · intro j t k hj hI hk
    have e1 : p0.length - (p0.getD j 0 :: p0.drop (j + 1)).length = j := by simp; omega
    have e2 : p0.length - (p0.drop (j + 1)).length = j + 1 := by simp; omega
    rw [e1] at hI
    rw [e2] at hk
    subst hI
    have hj' : (j : Int) < p0.length := by omega
    have hs : v_sum (p0.take (j + 1)) = v_sum (p0.take j) + p0.getD j 0 := by rw [take_snoc hj, v_sum_app]; simp [v_sum]
    have s0 := v_part_step hj w0.1 w0.2
    have s1 := v_part_step hj (show 0 ≤ p1.2.1.1 by omega) w2
    have s2 := v_part_step hj (show 0 ≤ p1.2.2.1 by omega) w4.1
    have b0 := v_part_in j hn w0.1 w0.2
    have b1 := v_part_in j hn (show 0 ≤ p1.2.1.1 by omega) w2
    have b2 := v_part_in j hn (show 0 ≤ p1.2.2.1 by omega) w4.1
    have be := getD_le_sum hn j
    have bs : 0 ≤ v_sum (p0.take j) ∧ v_sum (p0.take j) ≤ v_sum p0 := by
      have c1 := v_sum_up hn (Nat.zero_le j)
      have c2 := v_sum_up hn (Nat.le_of_lt hj)
      rw [List.take_zero, show v_sum [] = 0 from rfl] at c1
      rw [List.take_length] at c2
      exact ⟨c1, c2⟩
    have ew : ∀ a : Int, -100000000 ≤ a → a ≤ 100000000 → IntKind.i64.wrap (a + p0.getD j 0) = a + p0.getD j 0 := fun a h1 h2 => wrap_id (by omega) (by omega)
    have g : ∀ {x : Int × Int}, s_base_Within (j : Int) x.1 x.2 = true → x.1 ≤ j ∧ (j : Int) ≤ x.2 := fun h => tx_within.1 h
    have ng : ∀ {x : Int × Int}, s_base_Within (j : Int) x.1 x.2 = false → ¬ (x.1 ≤ j ∧ (j : Int) ≤ x.2) := fun h h2 => by
      have : s_base_Within (j : Int) _ _ = true := tx_within.2 h2
      rw [this] at h; cases h
    unfold b_ref06_Sums_0
    simp only [wrap_nat (show (j : Int) ≤ 9223372036854775806 by omega), Int.toNat_natCast]
    refine ⟨fun _ => ⟨fun h0 => ⟨by omega, hj', fun h1 => ?_, fun h1 => ⟨fun h2 => ?_, fun h2 => ?_⟩⟩, fun h0 => ⟨fun h1 => ⟨by omega, hj', fun h2 => ?_, fun h2 => ?_⟩, fun h1 => ⟨fun h2 => ⟨by omega, hj', ?_⟩, fun h2 => ⟨by omega, hj', ?_⟩⟩⟩⟩, fun hf => ?_⟩
    · have := g h0; have := g h1; omega
    · have := g h0; have := g h2; omega
    · rw [if_pos (g h0)] at s0; rw [if_neg (ng h1)] at s1; rw [if_neg (ng h2)] at s2
      refine hk _ ?_
      rw [ew _ (by omega) (by omega), s0, s1, s2, hs, Int.add_zero, Int.add_zero]
      simp only [Prod.mk.injEq, and_true, true_and]
      omega
    · have := g h1; have := g h2; omega
    · rw [if_neg (ng h0)] at s0; rw [if_pos (g h1)] at s1; rw [if_neg (ng h2)] at s2
      refine hk _ ?_
      rw [ew _ (by omega) (by omega), s0, s1, s2, hs, Int.add_zero, Int.add_zero]
      simp only [Prod.mk.injEq, and_true, true_and]
      omega
    · rw [if_neg (ng h0)] at s0; rw [if_neg (ng h1)] at s1; rw [if_pos (g h2)] at s2
      refine hk _ ?_
      rw [ew _ (by omega) (by omega), s0, s1, s2, hs, Int.add_zero, Int.add_zero]
      simp only [Prod.mk.injEq, and_true, true_and]
      omega
    · rw [if_neg (ng h0)] at s0; rw [if_neg (ng h1)] at s1; rw [if_neg (ng h2)] at s2
      refine hk _ ?_
      rw [ew _ (by omega) (by omega), s0, s1, s2, hs, Int.add_zero, Int.add_zero, Int.add_zero]
      simp only [Prod.mk.injEq, and_true]
      omega
    · rw [decide_eq_true hj'] at hf; cases hf

def s_ref06_Sums (p0 : (List Int)) (p1 : ((Int × Int) × ((Int × Int) × (Int × Int)))) : ((Int × (Int × Int)) × Int) :=
  (lp_ref06_Sums_0 p0 p1 ((0 : Int), ((0 : Int), ((0 : Int), ((0 : Int), (0 : Int))))))
abbrev pre_ref06_Sums (p0 : (List Int)) (p1 : ((Int × Int) × ((Int × Int) × (Int × Int)))) : List Prop := [(lpre_ref06_Sums_0 p0 p1 ((0 : Int), ((0 : Int), ((0 : Int), ((0 : Int), (0 : Int))))))]
set_option maxHeartbeats 4000000 in
theorem d_ref06_Sums (p0 : (List Int)) (p1 : ((Int × Int) × ((Int × Int) × (Int × Int)))) (K : ((Int × (Int × Int)) × Int) → Prop) (hp : ∀ p ∈ pre_ref06_Sums p0 p1, p) (h : K (s_ref06_Sums p0 p1)) : w_ref06_Sums p0 p1 K := by
  unfold w_ref06_Sums
  unfold s_ref06_Sums at h
  obtain ⟨hp0, _⟩ := conj_of hp
  exact (Exists.imp (fun n hn => loop_mono (fun y k k' hk hy => ⟨fun e0 => ⟨31, ⟨fun _ => ⟨(of_decide_eq_true rfl), ⟨(of_decide_eq_true rfl), ⟨(of_decide_eq_true rfl), ⟨(of_decide_eq_true rfl), ⟨fun e1 => ⟨(of_decide_eq_true rfl), ⟨(of_decide_eq_true rfl), ⟨((hy.1 e0).1 e1).1, ⟨((hy.1 e0).1 e1).2.1, ⟨(of_decide_eq_true rfl), ⟨(of_decide_eq_true rfl), ⟨fun _ => ⟨(of_decide_eq_true rfl), ⟨(of_decide_eq_true rfl), ⟨(of_decide_eq_true rfl), ⟨(of_decide_eq_true rfl), ⟨fun e2 => ⟨(of_decide_eq_true rfl), ⟨(of_decide_eq_true rfl), ⟨(((hy.1 e0).1 e1).2.2.1 e2).1, ⟨(((hy.1 e0).1 e1).2.2.1 e2).2.1, ⟨(of_decide_eq_true rfl), ⟨(of_decide_eq_true rfl), ⟨fun _ => ⟨(of_decide_eq_true rfl), ⟨(of_decide_eq_true rfl), ⟨(of_decide_eq_true rfl), ⟨(of_decide_eq_true rfl), ⟨fun e3 => ⟨(of_decide_eq_true rfl), ⟨(of_decide_eq_true rfl), ⟨((((hy.1 e0).1 e1).2.2.1 e2).2.2.1 e3).1, ⟨((((hy.1 e0).1 e1).2.2.1 e2).2.2.1 e3).2.1, ⟨(of_decide_eq_true rfl), ⟨(of_decide_eq_true rfl), ⟨fun e => Bool.noConfusion (show false = true from e), fun _ => ⟨fun e => Bool.noConfusion (show false = true from e), fun _ => (hk _ ((((hy.1 e0).1 e1).2.2.1 e2).2.2.1 e3).2.2)⟩⟩⟩⟩⟩⟩⟩⟩, fun e3 => ⟨fun e => Bool.noConfusion (show false = true from e), fun _ => ⟨fun e => Bool.noConfusion (show false = true from e), fun _ => (hk _ ((((hy.1 e0).1 e1).2.2.1 e2).2.2.2 e3))⟩⟩⟩⟩⟩⟩⟩, fun e => Bool.noConfusion (show true = false from e)⟩⟩⟩⟩⟩⟩⟩, fun e2 => ⟨fun _ => ⟨(of_decide_eq_true rfl), ⟨(of_decide_eq_true rfl), ⟨(of_decide_eq_true rfl), ⟨(of_decide_eq_true rfl), ⟨fun e4 => ⟨(of_decide_eq_true rfl), ⟨(of_decide_eq_true rfl), ⟨((((hy.1 e0).1 e1).2.2.2 e2).1 e4).1, ⟨((((hy.1 e0).1 e1).2.2.2 e2).1 e4).2.1, ⟨(of_decide_eq_true rfl), ⟨(of_decide_eq_true rfl), ⟨fun e => Bool.noConfusion (show false = true from e), fun _ => ⟨fun e => Bool.noConfusion (show false = true from e), fun _ => (hk _ ((((hy.1 e0).1 e1).2.2.2 e2).1 e4).2.2)⟩⟩⟩⟩⟩⟩⟩⟩, fun e4 => ⟨fun e => Bool.noConfusion (show false = true from e), fun _ => ⟨fun e => Bool.noConfusion (show false = true from e), fun _ => (hk _ ((((hy.1 e0).1 e1).2.2.2 e2).2 e4))⟩⟩⟩⟩⟩⟩⟩, fun e => Bool.noConfusion (show true = false from e)⟩⟩⟩⟩⟩⟩, fun e => Bool.noConfusion (show true = false from e)⟩⟩⟩⟩⟩⟩⟩, fun e1 => ⟨fun _ => ⟨(of_decide_eq_true rfl), ⟨(of_decide_eq_true rfl), ⟨(of_decide_eq_true rfl), ⟨(of_decide_eq_true rfl), ⟨fun e5 => ⟨(of_decide_eq_true rfl), ⟨(of_decide_eq_true rfl), ⟨(((hy.1 e0).2 e1).1 e5).1, ⟨(((hy.1 e0).2 e1).1 e5).2.1, ⟨(of_decide_eq_true rfl), ⟨(of_decide_eq_true rfl), ⟨fun _ => ⟨(of_decide_eq_true rfl), ⟨(of_decide_eq_true rfl), ⟨(of_decide_eq_true rfl), ⟨(of_decide_eq_true rfl), ⟨fun e6 => ⟨(of_decide_eq_true rfl), ⟨(of_decide_eq_true rfl), ⟨((((hy.1 e0).2 e1).1 e5).2.2.1 e6).1, ⟨((((hy.1 e0).2 e1).1 e5).2.2.1 e6).2.1, ⟨(of_decide_eq_true rfl), ⟨(of_decide_eq_true rfl), ⟨fun e => Bool.noConfusion (show false = true from e), fun _ => ⟨fun e => Bool.noConfusion (show false = true from e), fun _ => (hk _ ((((hy.1 e0).2 e1).1 e5).2.2.1 e6).2.2)⟩⟩⟩⟩⟩⟩⟩⟩, fun e6 => ⟨fun e => Bool.noConfusion (show false = true from e), fun _ => ⟨fun e => Bool.noConfusion (show false = true from e), fun _ => (hk _ ((((hy.1 e0).2 e1).1 e5).2.2.2 e6))⟩⟩⟩⟩⟩⟩⟩, fun e => Bool.noConfusion (show true = false from e)⟩⟩⟩⟩⟩⟩⟩, fun e5 => ⟨fun _ => ⟨(of_decide_eq_true rfl), ⟨(of_decide_eq_true rfl), ⟨(of_decide_eq_true rfl), ⟨(of_decide_eq_true rfl), ⟨fun e7 => ⟨(of_decide_eq_true rfl), ⟨(of_decide_eq_true rfl), ⟨((((hy.1 e0).2 e1).2 e5).1 e7).1, ⟨((((hy.1 e0).2 e1).2 e5).1 e7).2.1, ⟨(of_decide_eq_true rfl), ⟨(of_decide_eq_true rfl), ⟨fun e => Bool.noConfusion (show false = true from e), fun _ => ⟨fun e => Bool.noConfusion (show false = true from e), fun _ => (hk _ ((((hy.1 e0).2 e1).2 e5).1 e7).2.2)⟩⟩⟩⟩⟩⟩⟩⟩, fun e7 => ⟨fun e => Bool.noConfusion (show false = true from e), fun _ => ⟨fun _ => ⟨((((hy.1 e0).2 e1).2 e5).2 e7).1, ⟨((((hy.1 e0).2 e1).2 e5).2 e7).2.1, (hk _ ((((hy.1 e0).2 e1).2 e5).2 e7).2.2)⟩⟩, fun e => Bool.noConfusion (show true = false from e)⟩⟩⟩⟩⟩⟩⟩, fun e => Bool.noConfusion (show true = false from e)⟩⟩⟩⟩⟩⟩, fun e => Bool.noConfusion (show true = false from e)⟩⟩⟩⟩⟩⟩, fun e => Bool.noConfusion (show true = false from e)⟩⟩, fun e0 => (hy.2 e0)⟩) n _ hn) (lk_ref06_Sums_0 p0 p1 ((0 : Int), ((0 : Int), ((0 : Int), ((0 : Int), (0 : Int))))) K (hp0) h))
abbrev t_ref06_Sums (p0 : List Int) (p1 : (Int × Int) × (Int × Int) × Int × Int) : (Int × Int × Int) × Int := ((v_win p0 p1.1, v_win p0 p1.2.1, v_win p0 p1.2.2), v_sum p0 - (v_win p0 p1.1 + v_win p0 p1.2.1 + v_win p0 p1.2.2))
abbrev qre_ref06_Sums (p0 : List Int) (p1 : (Int × Int) × (Int × Int) × Int × Int) : List Prop := [v_windows p0 p1]
theorem pp_ref06_Sums (p0 : List Int) (p1 : (Int × Int) × (Int × Int) × Int × Int) (hq : ∀ p ∈ qre_ref06_Sums p0 p1, p) : ∀ p ∈ pre_ref06_Sums p0 p1, p := by
  have hv := (conj_of hq).1
  intro p hp
  simp only [pre_ref06_Sums, List.mem_cons, List.not_mem_nil, or_false] at hp
  subst hp
  exact ⟨hv, rfl⟩
theorem tt_ref06_Sums (p0 : List Int) (p1 : (Int × Int) × (Int × Int) × Int × Int) (_ : ∀ p ∈ qre_ref06_Sums p0 p1, p) : s_ref06_Sums p0 p1 = t_ref06_Sums p0 p1 := rfl

abbrev con_ref06_Sums : Con := ⟨P_ref06_Sums, R_ref06_Sums, fun x => qre_ref06_Sums x.1 x.2, fun x => t_ref06_Sums x.1 x.2⟩
theorem ok_ref06_Sums : ConOk Try.prog 59 con_ref06_Sums := ⟨k_ref06_Sums, fun x hx => ret_tf (ps := P_ref06_Sums) (rs := R_ref06_Sums) (x := x) (y := t_ref06_Sums x.1 x.2) e_ref06_Sums hC_ref06_Sums (tf_of (w_ref06_Sums_eq x.1 x.2 (fun z => z = t_ref06_Sums x.1 x.2)) (d_ref06_Sums x.1 x.2 (fun z => z = t_ref06_Sums x.1 x.2) (pp_ref06_Sums x.1 x.2 hx) (tt_ref06_Sums x.1 x.2 hx)))⟩
/- ref06_Peak -/
def C_ref06_Peak : Cons := []
theorem hC_ref06_Peak : ConsOk Try.prog C_ref06_Peak := ConsOk.nil
def w_ref06_Peak (p0 : (List Int)) (p1 : (Int × Int)) (K : Int → Prop) : Prop :=
  (∃ n0, (loopP (fun (y1 : (Int × Int)) k2 =>
    ((((decide (y1.1 ≤ p1.2)) = true) →
    (((0 : Int) ≤ y1.1) ∧
      ((y1.1 < (((List.length p0) : Nat) : Int)) ∧
      (((0 : Int) ≤ y1.2) ∧
      ((y1.2 < (((List.length p0) : Nat) : Int)) ∧
      ((((decide ((List.getD p0 (Int.toNat y1.1) (0 : Int)) > (List.getD p0 (Int.toNat y1.2) (0 : Int)))) = true) →
      (k2 ((Go.IntKind.wrap .i64 (y1.1 + (1 : Int))), y1.1))) ∧
      (((decide ((List.getD p0 (Int.toNat y1.1) (0 : Int)) > (List.getD p0 (Int.toNat y1.2) (0 : Int)))) = false) →
      (k2 ((Go.IntKind.wrap .i64 (y1.1 + (1 : Int))), y1.2))))))))) ∧
    (((decide (y1.1 ≤ p1.2)) = false) →
    (K y1.2)))) n0 (p1.1, p1.1)))
set_option maxHeartbeats 4000000 in
theorem w_ref06_Peak_eq (p0 : (List Int)) (p1 : (Int × Int)) (K : Int → Prop) : tfn F_ref06_Peak A_ref06_Peak C_ref06_Peak P_ref06_Peak R_ref06_Peak (p0, p1) K = w_ref06_Peak p0 p1 K := by kernel_rfl
def b_ref06_Peak_0 (p0 : (List Int)) (p1 : (Int × Int)) (K : Int → Prop) (y : (Int × Int)) (k : (Int × Int) → Prop) : Prop :=
  (((decide (y.1 ≤ p1.2)) = true →
    (((0 : Int) ≤ y.1) ∧
    ((y.1 < (((List.length p0) : Nat) : Int)) ∧
    (((0 : Int) ≤ y.2) ∧
    ((y.2 < (((List.length p0) : Nat) : Int)) ∧
    (((decide ((List.getD p0 (Int.toNat y.1) (0 : Int)) > (List.getD p0 (Int.toNat y.2) (0 : Int)))) = true →
      (k ((Go.IntKind.wrap .i64 (y.1 + (1 : Int))), y.1))) ∧
    ((decide ((List.getD p0 (Int.toNat y.1) (0 : Int)) > (List.getD p0 (Int.toNat y.2) (0 : Int)))) = false →
      (k ((Go.IntKind.wrap .i64 (y.1 + (1 : Int))), y.2))))))))) ∧
  ((decide (y.1 ≤ p1.2)) = false →
    (K y.2)))
def lp_ref06_Peak_0 (p0 : List Int) (p1 : Int × Int) (_ : Int × Int) : Int := v_peak p0 p1
abbrev lpre_ref06_Peak_0 (p0 : List Int) (p1 : Int × Int) (x : Int × Int) : Prop := v_spectrum p0 ∧ (0 ≤ p1.1 ∧ p1.1 ≤ p1.2 ∧ p1.2 < p0.length) ∧ x = (p1.1, p1.1)
theorem lk_ref06_Peak_0 (p0 : List Int) (p1 : Int × Int) (x : Int × Int) (K : Int → Prop) (hp : lpre_ref06_Peak_0 p0 p1 x) (h : K (lp_ref06_Peak_0 p0 p1 x)) : ∃ n, loopP (b_ref06_Peak_0 p0 p1 K) n x := by
  obtain ⟨hs, ⟨h0, h1, h2⟩, rfl⟩ := hp
  have hl := hs.len
  obtain ⟨lo, hi⟩ := p1
  simp only at h0 h1 h2
  obtain ⟨a, rfl⟩ : ∃ a : Nat, lo = (a : Int) := ⟨lo.toNat, by omega⟩
  obtain ⟨b, rfl⟩ : ∃ b : Nat, hi = (b : Int) := ⟨hi.toNat, by omega⟩
  -- what is best so far
  have key : ∀ c : Nat, a ≤ c → c < p0.length → ((p0.drop a).take (c - a)) ≠ [] → (v_max ((p0.drop a).take (c - a))) = p0.getD ((a : Int) + v_idx (v_max ((p0.drop a).take (c - a))) 0 ((p0.drop a).take (c - a))).toNat 0 ∧ 0 ≤ v_idx (v_max ((p0.drop a).take (c - a))) 0 ((p0.drop a).take (c - a)) ∧ v_idx (v_max ((p0.drop a).take (c - a))) 0 ((p0.drop a).take (c - a)) < c - a := by
    intro c hc hc2 hne
    obtain ⟨g1, g2, g3⟩ := v_idx_mem (i := 0) (v_max_mem hne)
    have gl : ((p0.drop a).take (c - a)).length = c - a := by rw [List.length_take, List.length_drop]; omega
    rw [gl] at g2
    refine ⟨?_, g1, by omega⟩
    rw [Int.sub_zero] at g3
    generalize v_idx (v_max ((p0.drop a).take (c - a))) 0 ((p0.drop a).take (c - a)) = i at *
    rw [← g3]
    rw [List.getD, List.getElem?_take, if_pos (by omega), List.getElem?_drop, List.getD]
    congr 2
    omega
  have snoc : ∀ c : Nat, a ≤ c → c < p0.length → (p0.drop a).take (c + 1 - a) = (p0.drop a).take (c - a) ++ [p0.getD c 0] := by
    intro c hc hc2
    rw [show c + 1 - a = c - a + 1 by omega, take_snoc (by rw [List.length_drop]; omega)]
    congr 2
    rw [List.getD, List.getElem?_drop, List.getD]
    congr 2
    omega
  refine ⟨b + 2 - a, loop_ind (fun n s => ∃ c : Nat, s.1 = (c : Int) ∧ a ≤ c ∧ c ≤ b + 1 ∧ n + c = b + 2 ∧ ((c = a ∧ s.2 = (a : Int)) ∨ (a < c ∧ s.2 = (a : Int) + v_idx (v_max ((p0.drop a).take (c - a))) 0 ((p0.drop a).take (c - a))))) (fun s hs => by obtain ⟨c, hs⟩ := hs; omega) ?_ _ _ ⟨a, rfl, Nat.le_refl _, by omega, by omega, .inl ⟨rfl, rfl⟩⟩⟩
  rintro n ⟨y1, y2⟩ k ⟨c, hy1, h3, h4, h5, h6⟩ hk
  simp only at hy1 h6
  subst hy1
  unfold b_ref06_Peak_0
  refine ⟨fun hj => ?_, fun hj => ?_⟩
  · have hj : (c : Int) ≤ b := of_decide_eq_true hj
    have hcl : c < p0.length := by omega
    have hne : a < c → (p0.drop a).take (c - a) ≠ [] := by
      intro hac e
      have := congrArg List.length e
      rw [List.length_take, List.length_drop] at this
      simp at this
      omega
    have hb : 0 ≤ y2 ∧ y2 < p0.length := by
      rcases h6 with ⟨rfl, rfl⟩ | ⟨hac, rfl⟩
      · omega
      · have := key c h3 hcl (hne hac)
        omega
    refine ⟨by show (0 : Int) ≤ c; omega, by show (c : Int) < p0.length; omega, hb.1, hb.2, fun hg => ?_, fun hg => ?_⟩
    · have hg : p0.getD c 0 > p0.getD y2.toNat 0 := of_decide_eq_true hg
      simp only [wrap_nat (show (c : Int) ≤ 9223372036854775806 by omega)]
      refine hk _ ⟨c + 1, rfl, by omega, by omega, by omega, .inr ⟨by omega, ?_⟩⟩
      rcases h6 with ⟨rfl, rfl⟩ | ⟨hac, rfl⟩
      · simp only [Int.toNat_natCast] at hg; omega
      · have hk := key c h3 hcl (hne hac)
        rw [← hk.1] at hg
        rw [snoc c h3 hcl, v_max_snoc _ (hne hac), Int.max_eq_right (by omega), v_idx_new (fun hm => by have := le_v_max hm; omega), List.length_take, List.length_drop]
        show (c : Int) = _
        omega
    · have hg : ¬ p0.getD c 0 > p0.getD y2.toNat 0 := of_decide_eq_false hg
      simp only [wrap_nat (show (c : Int) ≤ 9223372036854775806 by omega)]
      refine hk _ ⟨c + 1, rfl, by omega, by omega, by omega, .inr ⟨by omega, ?_⟩⟩
      rcases h6 with ⟨rfl, rfl⟩ | ⟨hac, rfl⟩
      · rw [snoc c h3 hcl, Nat.sub_self, List.take_zero]
        simp [v_max, v_idx]
      · have hk := key c h3 hcl (hne hac)
        rw [← hk.1] at hg
        rw [snoc c h3 hcl, v_max_snoc _ (hne hac), Int.max_eq_left (by omega), v_idx_app _ (v_max_mem (hne hac))]
  · have hj : ¬ (c : Int) ≤ b := of_decide_eq_false hj
    have hc : c = b + 1 := by omega
    subst hc
    rcases h6 with ⟨_, _⟩ | ⟨hac, rfl⟩
    · omega
    · exact h

def s_ref06_Peak (p0 : (List Int)) (p1 : (Int × Int)) : Int :=
  (lp_ref06_Peak_0 p0 p1 (p1.1, p1.1))
abbrev pre_ref06_Peak (p0 : (List Int)) (p1 : (Int × Int)) : List Prop := [(lpre_ref06_Peak_0 p0 p1 (p1.1, p1.1))]
set_option maxHeartbeats 4000000 in
theorem d_ref06_Peak (p0 : (List Int)) (p1 : (Int × Int)) (K : Int → Prop) (hp : ∀ p ∈ pre_ref06_Peak p0 p1, p) (h : K (s_ref06_Peak p0 p1)) : w_ref06_Peak p0 p1 K := by
  unfold w_ref06_Peak
  unfold s_ref06_Peak at h
  obtain ⟨hp0, _⟩ := conj_of hp
  exact (Exists.imp (fun n hn => loop_mono (fun y k k' hk hy => ⟨fun e0 => ⟨(hy.1 e0).1, ⟨(hy.1 e0).2.1, ⟨(hy.1 e0).2.2.1, ⟨(hy.1 e0).2.2.2.1, ⟨fun e1 => (hk _ ((hy.1 e0).2.2.2.2.1 e1)), fun e1 => (hk _ ((hy.1 e0).2.2.2.2.2 e1))⟩⟩⟩⟩⟩, fun e0 => (hy.2 e0)⟩) n _ hn) (lk_ref06_Peak_0 p0 p1 (p1.1, p1.1) K (hp0) h))
abbrev t_ref06_Peak (p0 : List Int) (p1 : Int × Int) : Int := v_peak p0 p1
abbrev qre_ref06_Peak (p0 : List Int) (p1 : Int × Int) : List Prop := [v_spectrum p0 ∧ (0 ≤ p1.1 ∧ p1.1 ≤ p1.2 ∧ p1.2 < p0.length)]
theorem pp_ref06_Peak (p0 : List Int) (p1 : Int × Int) (hq : ∀ p ∈ qre_ref06_Peak p0 p1, p) : ∀ p ∈ pre_ref06_Peak p0 p1, p := by
  have hv := (conj_of hq).1
  intro p hp
  simp only [pre_ref06_Peak, List.mem_cons, List.not_mem_nil, or_false] at hp
  subst hp
  exact ⟨hv.1, hv.2, rfl⟩
theorem tt_ref06_Peak (p0 : List Int) (p1 : Int × Int) (_ : ∀ p ∈ qre_ref06_Peak p0 p1, p) : s_ref06_Peak p0 p1 = t_ref06_Peak p0 p1 := rfl

abbrev con_ref06_Peak : Con := ⟨P_ref06_Peak, R_ref06_Peak, fun x => qre_ref06_Peak x.1 x.2, fun x => t_ref06_Peak x.1 x.2⟩
theorem ok_ref06_Peak : ConOk Try.prog 61 con_ref06_Peak := ⟨k_ref06_Peak, fun x hx => ret_tf (ps := P_ref06_Peak) (rs := R_ref06_Peak) (x := x) (y := t_ref06_Peak x.1 x.2) e_ref06_Peak hC_ref06_Peak (tf_of (w_ref06_Peak_eq x.1 x.2 (fun z => z = t_ref06_Peak x.1 x.2)) (d_ref06_Peak x.1 x.2 (fun z => z = t_ref06_Peak x.1 x.2) (pp_ref06_Peak x.1 x.2 hx) (tt_ref06_Peak x.1 x.2 hx)))⟩
/- ref06_Shifted -/
def C_ref06_Shifted : Cons := []
theorem hC_ref06_Shifted : ConsOk Try.prog C_ref06_Shifted := ConsOk.nil
def w_ref06_Shifted (p0 : (List Int)) (p1 : Int) (K : (List Int) → Prop) : Prop :=
  (((0 : Int) ≤ (((List.length p0) : Nat) : Int)) ∧
  ((((8 : Int) * (((List.length p0) : Nat) : Int)) ≤ (281474976710656 : Int)) ∧
  (((((List.length p0) : Nat) : Int) ≤ (9223372036854775807 : Int)) ∧
  (∃ n0, (loopP (fun (y1 : (Int × (List Int))) k2 =>
    ((((decide (y1.1 < (((List.length p0) : Nat) : Int))) = true) →
    (((0 : Int) ≤ (max (0 : Int) (min (Go.IntKind.wrap .i64 ((((List.length p0) : Nat) : Int) - (1 : Int))) (Go.IntKind.wrap .i64 (y1.1 + p1))))) ∧
      (((max (0 : Int) (min (Go.IntKind.wrap .i64 ((((List.length p0) : Nat) : Int) - (1 : Int))) (Go.IntKind.wrap .i64 (y1.1 + p1)))) < (((List.length y1.2) : Nat) : Int)) ∧
      (((0 : Int) ≤ y1.1) ∧
      ((y1.1 < (((List.length p0) : Nat) : Int)) ∧
      (((0 : Int) ≤ (max (0 : Int) (min (Go.IntKind.wrap .i64 ((((List.length p0) : Nat) : Int) - (1 : Int))) (Go.IntKind.wrap .i64 (y1.1 + p1))))) ∧
      (((max (0 : Int) (min (Go.IntKind.wrap .i64 ((((List.length p0) : Nat) : Int) - (1 : Int))) (Go.IntKind.wrap .i64 (y1.1 + p1)))) < (((List.length y1.2) : Nat) : Int)) ∧
      (k2 ((Go.IntKind.wrap .i64 (y1.1 + (1 : Int))), (List.set y1.2 (Int.toNat (max (0 : Int) (min (Go.IntKind.wrap .i64 ((((List.length p0) : Nat) : Int) - (1 : Int))) (Go.IntKind.wrap .i64 (y1.1 + p1))))) (Go.IntKind.wrap .i64 ((List.getD y1.2 (Int.toNat (max (0 : Int) (min (Go.IntKind.wrap .i64 ((((List.length p0) : Nat) : Int) - (1 : Int))) (Go.IntKind.wrap .i64 (y1.1 + p1))))) (0 : Int)) + (List.getD p0 (Int.toNat y1.1) (0 : Int)))))))))))))) ∧
    (((decide (y1.1 < (((List.length p0) : Nat) : Int))) = false) →
    (K y1.2)))) n0 ((0 : Int), (List.replicate (Int.toNat (((List.length p0) : Nat) : Int)) (0 : Int))))))))
set_option maxHeartbeats 4000000 in
theorem w_ref06_Shifted_eq (p0 : (List Int)) (p1 : Int) (K : (List Int) → Prop) : tfn F_ref06_Shifted A_ref06_Shifted C_ref06_Shifted P_ref06_Shifted R_ref06_Shifted (p0, p1) K = w_ref06_Shifted p0 p1 K := by kernel_rfl
def b_ref06_Shifted_0 (p0 : (List Int)) (p1 : Int) (K : (List Int) → Prop) (y : (Int × (List Int))) (k : (Int × (List Int)) → Prop) : Prop :=
  (((decide (y.1 < (((List.length p0) : Nat) : Int))) = true →
    (((0 : Int) ≤ (max (0 : Int) (min (Go.IntKind.wrap .i64 ((((List.length p0) : Nat) : Int) - (1 : Int))) (Go.IntKind.wrap .i64 (y.1 + p1))))) ∧
    (((max (0 : Int) (min (Go.IntKind.wrap .i64 ((((List.length p0) : Nat) : Int) - (1 : Int))) (Go.IntKind.wrap .i64 (y.1 + p1)))) < (((List.length y.2) : Nat) : Int)) ∧
    (((0 : Int) ≤ y.1) ∧
    ((y.1 < (((List.length p0) : Nat) : Int)) ∧
    (((0 : Int) ≤ (max (0 : Int) (min (Go.IntKind.wrap .i64 ((((List.length p0) : Nat) : Int) - (1 : Int))) (Go.IntKind.wrap .i64 (y.1 + p1))))) ∧
    (((max (0 : Int) (min (Go.IntKind.wrap .i64 ((((List.length p0) : Nat) : Int) - (1 : Int))) (Go.IntKind.wrap .i64 (y.1 + p1)))) < (((List.length y.2) : Nat) : Int)) ∧
    (k ((Go.IntKind.wrap .i64 (y.1 + (1 : Int))), (List.set y.2 (Int.toNat (max (0 : Int) (min (Go.IntKind.wrap .i64 ((((List.length p0) : Nat) : Int) - (1 : Int))) (Go.IntKind.wrap .i64 (y.1 + p1))))) (Go.IntKind.wrap .i64 ((List.getD y.2 (Int.toNat (max (0 : Int) (min (Go.IntKind.wrap .i64 ((((List.length p0) : Nat) : Int) - (1 : Int))) (Go.IntKind.wrap .i64 (y.1 + p1))))) (0 : Int)) + (List.getD p0 (Int.toNat y.1) (0 : Int)))))))))))))) ∧
  ((decide (y.1 < (((List.length p0) : Nat) : Int))) = false →
    (K y.2)))
def lp_ref06_Shifted_0 (p0 : List Int) (p1 : Int) (_ : Int × List Int) : List Int := v_shifted p0 p1
abbrev lpre_ref06_Shifted_0 (p0 : List Int) (p1 : Int) (x : Int × List Int) : Prop := lpre_counts_Shifted_0 p0 p1 x
theorem lk_ref06_Shifted_0 (p0 : List Int) (p1 : Int) (x : Int × List Int) (K : List Int → Prop) (hp : lpre_ref06_Shifted_0 p0 p1 x) (h : K (lp_ref06_Shifted_0 p0 p1 x)) : ∃ n, loopP (b_ref06_Shifted_0 p0 p1 K) n x := by
  obtain ⟨hl, hd, rfl⟩ := hp
  refine loop_list (fun i t => (i, t)) p0 0 (fun (t : List Int) r => t.length = p0.length ∧ K (sp_shift p0.length p1 ((p0.length : Int) - r.length) r t)) ?_ ?_ (List.replicate p0.length 0) ⟨by simp, by simpa [lp_ref06_Shifted_0, v_shifted] using h⟩
  · intro t k hI
    unfold b_ref06_Shifted_0
    simpa [sp_shift] using hI.2
  · intro j t k hj hI hk
    obtain ⟨ht, hI⟩ := hI
    have hj' : (j : Int) < p0.length := by omega
    have e1 : (p0.length : Int) - ((p0.getD j 0 :: p0.drop (j + 1)).length : Int) = j := by simp; omega
    have e2 : (p0.length : Int) - ((p0.drop (j + 1)).length : Int) = (j : Int) + 1 := by simp; omega
    have e3 : IntKind.i64.wrap ((p0.length : Int) - 1) = (p0.length : Int) - 1 := wrap_id (by omega) (by omega)
    have e4 : IntKind.i64.wrap ((j : Int) + p1) = (j : Int) + p1 := wrap_id (by omega) (by omega)
    have e5 : max 0 (min ((p0.length : Int) - 1) ((j : Int) + p1)) = v_clamp p0.length ((j : Int) + p1) := by unfold v_clamp; omega
    have hc := v_clamp_in (n := p0.length) (x := (j : Int) + p1) (by omega)
    rw [e1] at hI
    unfold b_ref06_Shifted_0
    simp only [e3, e4, e5, wrap_nat (show (j : Int) ≤ 9223372036854775806 by omega), hj', decide_true, Int.toNat_natCast, forall_const, Bool.true_eq_false, false_imp_iff, and_true]
    refine ⟨hc.1, ?_, by omega, trivial, hc.1, ?_, hk _ ⟨?_, ?_⟩⟩
    · rw [ht]; exact hc.2
    · rw [ht]; exact hc.2
    · rw [List.length_set]; exact ht
    · rw [e2]; exact hI

def s_ref06_Shifted (p0 : (List Int)) (p1 : Int) : (List Int) :=
  (lp_ref06_Shifted_0 p0 p1 ((0 : Int), (List.replicate (Int.toNat (((List.length p0) : Nat) : Int)) (0 : Int))))
abbrev pre_ref06_Shifted (p0 : (List Int)) (p1 : Int) : List Prop := [((0 : Int) ≤ (((List.length p0) : Nat) : Int)),
    (((8 : Int) * (((List.length p0) : Nat) : Int)) ≤ (281474976710656 : Int)),
    ((((List.length p0) : Nat) : Int) ≤ (9223372036854775807 : Int)),
    (lpre_ref06_Shifted_0 p0 p1 ((0 : Int), (List.replicate (Int.toNat (((List.length p0) : Nat) : Int)) (0 : Int))))]
set_option maxHeartbeats 4000000 in
theorem d_ref06_Shifted (p0 : (List Int)) (p1 : Int) (K : (List Int) → Prop) (hp : ∀ p ∈ pre_ref06_Shifted p0 p1, p) (h : K (s_ref06_Shifted p0 p1)) : w_ref06_Shifted p0 p1 K := by
  unfold w_ref06_Shifted
  unfold s_ref06_Shifted at h
  obtain ⟨hp0, hp1, hp2, hp3, _⟩ := conj_of hp
  exact ⟨(hp0), ⟨(hp1), ⟨(hp2), (Exists.imp (fun n hn => loop_mono (fun y k k' hk hy => ⟨fun e0 => ⟨(hy.1 e0).1, ⟨(hy.1 e0).2.1, ⟨(hy.1 e0).2.2.1, ⟨(hy.1 e0).2.2.2.1, ⟨(hy.1 e0).2.2.2.2.1, ⟨(hy.1 e0).2.2.2.2.2.1, (hk _ (hy.1 e0).2.2.2.2.2.2)⟩⟩⟩⟩⟩⟩, fun e0 => (hy.2 e0)⟩) n _ hn) (lk_ref06_Shifted_0 p0 p1 ((0 : Int), (List.replicate (Int.toNat (((List.length p0) : Nat) : Int)) (0 : Int))) K (hp3) h))⟩⟩⟩
abbrev t_ref06_Shifted (p0 : List Int) (p1 : Int) : List Int := v_shifted p0 p1
abbrev qre_ref06_Shifted (p0 : List Int) (p1 : Int) : List Prop := [v_spectrum p0, -64 ≤ p1 ∧ p1 ≤ 64]
theorem pp_ref06_Shifted (p0 : List Int) (p1 : Int) (hq : ∀ p ∈ qre_ref06_Shifted p0 p1, p) : ∀ p ∈ pre_ref06_Shifted p0 p1, p := by
  have hv := conj_of hq
  have hl := hv.1.len
  intro p hp
  simp only [pre_ref06_Shifted, List.mem_cons, List.not_mem_nil, or_false] at hp
  rcases hp with rfl | rfl | rfl | rfl
  all_goals first | omega | exact ⟨hl, hv.2.1, rfl⟩
theorem tt_ref06_Shifted (p0 : List Int) (p1 : Int) (_ : ∀ p ∈ qre_ref06_Shifted p0 p1, p) : s_ref06_Shifted p0 p1 = t_ref06_Shifted p0 p1 := rfl

abbrev con_ref06_Shifted : Con := ⟨P_ref06_Shifted, R_ref06_Shifted, fun x => qre_ref06_Shifted x.1 x.2, fun x => t_ref06_Shifted x.1 x.2⟩
theorem ok_ref06_Shifted : ConOk Try.prog 62 con_ref06_Shifted := ⟨k_ref06_Shifted, fun x hx => ret_tf (ps := P_ref06_Shifted) (rs := R_ref06_Shifted) (x := x) (y := t_ref06_Shifted x.1 x.2) e_ref06_Shifted hC_ref06_Shifted (tf_of (w_ref06_Shifted_eq x.1 x.2 (fun z => z = t_ref06_Shifted x.1 x.2)) (d_ref06_Shifted x.1 x.2 (fun z => z = t_ref06_Shifted x.1 x.2) (pp_ref06_Shifted x.1 x.2 hx) (tt_ref06_Shifted x.1 x.2 hx)))⟩
/- base_Ints -/
def C_base_Ints : Cons := []
theorem hC_base_Ints : ConsOk Try.prog C_base_Ints := ConsOk.nil
def w_base_Ints (p0 : (List Int)) (p1 : (List Int)) (K : Bool → Prop) : Prop :=
  (((((((List.length p0) : Nat) : Int) != (((List.length p1) : Nat) : Int)) = true) →
  (K false)) ∧
  ((((((List.length p0) : Nat) : Int) != (((List.length p1) : Nat) : Int)) = false) →
  (∃ n0, (loopP (fun (y1 : Int) k2 =>
      ((((decide (y1 < (((List.length p0) : Nat) : Int))) = true) →
      (((0 : Int) ≤ y1) ∧
        ((y1 < (((List.length p0) : Nat) : Int)) ∧
        (((0 : Int) ≤ y1) ∧
        ((y1 < (((List.length p1) : Nat) : Int)) ∧
        (((((List.getD p0 (Int.toNat y1) (0 : Int)) != (List.getD p1 (Int.toNat y1) (0 : Int))) = true) →
        (K false)) ∧
        ((((List.getD p0 (Int.toNat y1) (0 : Int)) != (List.getD p1 (Int.toNat y1) (0 : Int))) = false) →
        (k2 (Go.IntKind.wrap .i64 (y1 + (1 : Int))))))))))) ∧
      (((decide (y1 < (((List.length p0) : Nat) : Int))) = false) →
      (K true)))) n0 (0 : Int)))))
set_option maxHeartbeats 4000000 in
theorem w_base_Ints_eq (p0 : (List Int)) (p1 : (List Int)) (K : Bool → Prop) : tfn F_base_Ints A_base_Ints C_base_Ints P_base_Ints R_base_Ints (p0, p1) K = w_base_Ints p0 p1 K := by kernel_rfl
def b_base_Ints_0 (p0 : (List Int)) (p1 : (List Int)) (K : Bool → Prop) (y : Int) (k : Int → Prop) : Prop :=
  (((decide (y < (((List.length p0) : Nat) : Int))) = true →
    (((0 : Int) ≤ y) ∧
    ((y < (((List.length p0) : Nat) : Int)) ∧
    (((0 : Int) ≤ y) ∧
    ((y < (((List.length p1) : Nat) : Int)) ∧
    ((((List.getD p0 (Int.toNat y) (0 : Int)) != (List.getD p1 (Int.toNat y) (0 : Int))) = true →
      (K false)) ∧
    (((List.getD p0 (Int.toNat y) (0 : Int)) != (List.getD p1 (Int.toNat y) (0 : Int))) = false →
      (k (Go.IntKind.wrap .i64 (y + (1 : Int))))))))))) ∧
  ((decide (y < (((List.length p0) : Nat) : Int))) = false →
    (K true)))
/-- The same as far as the first one goes. -/
def sp_same : List Int → List Int → Bool
  | [], _ => true
  | x :: r, l => cond (x != l.getD 0 0) false (sp_same r (l.drop 1))
def lp_base_Ints_0 (p0 p1 : List Int) (_ : Int) : Bool := sp_same p0 p1
abbrev lpre_base_Ints_0 (p0 p1 : List Int) (x : Int) : Prop := lenOk p0 ∧ p0.length = p1.length ∧ x = 0
theorem lk_base_Ints_0 (p0 p1 : List Int) (x : Int) (K : Bool → Prop) (hp : lpre_base_Ints_0 p0 p1 x) (h : K (lp_base_Ints_0 p0 p1 x)) : ∃ n, loopP (b_base_Ints_0 p0 p1 K) n x := by
  obtain ⟨hl, he, rfl⟩ := hp
  refine loop_list0 p0 0 (fun r => K (sp_same r (p1.drop (p0.length - r.length)))) ?_ ?_ (by simpa [lp_base_Ints_0] using h)
  · intro k hI
    unfold b_base_Ints_0
    simpa [sp_same] using hI
  · intro j k hj hI hk
    have hj' : (j : Int) < p0.length := by omega
    unfold b_base_Ints_0
    rw [wrap_nat (by omega)]
    have e1 : p0.length - (p0.getD j 0 :: p0.drop (j + 1)).length = j := by simp; omega
    have e2 : p0.length - (p0.drop (j + 1)).length = j + 1 := by simp; omega
    have e3 : (p1.drop j).getD 0 0 = p1.getD j 0 := by simp [List.getD]
    rw [e1] at hI
    rw [e2] at hk
    unfold sp_same at hI
    rw [e3, List.drop_drop] at hI
    simp only [hj', decide_true, Int.toNat_natCast, forall_const, Bool.true_eq_false, false_imp_iff, and_true]
    refine ⟨by omega, trivial, by omega, by omega, fun hx => ?_, fun hx => hk ?_⟩
    · rw [hx] at hI; exact hI
    · rw [hx] at hI; exact hI

def s_base_Ints (p0 : (List Int)) (p1 : (List Int)) : Bool :=
  (cond ((((List.length p0) : Nat) : Int) != (((List.length p1) : Nat) : Int)) false
    (lp_base_Ints_0 p0 p1 (0 : Int)))
abbrev pre_base_Ints (p0 : (List Int)) (p1 : (List Int)) : List Prop := [((((((List.length p0) : Nat) : Int) != (((List.length p1) : Nat) : Int)) = false) → (lpre_base_Ints_0 p0 p1 (0 : Int)))]
set_option maxHeartbeats 4000000 in
theorem d_base_Ints (p0 : (List Int)) (p1 : (List Int)) (K : Bool → Prop) (hp : ∀ p ∈ pre_base_Ints p0 p1, p) (h : K (s_base_Ints p0 p1)) : w_base_Ints p0 p1 K := by
  unfold w_base_Ints
  unfold s_base_Ints at h
  obtain ⟨hp0, _⟩ := conj_of hp
  exact (br' h (fun e0 h => h)
    (fun e0 h => (Exists.imp (fun n hn => loop_mono (fun y k k' hk hy => ⟨fun e1 => ⟨(hy.1 e1).1, ⟨(hy.1 e1).2.1, ⟨(hy.1 e1).2.2.1, ⟨(hy.1 e1).2.2.2.1, ⟨fun e2 => ((hy.1 e1).2.2.2.2.1 e2), fun e2 => (hk _ ((hy.1 e1).2.2.2.2.2 e2))⟩⟩⟩⟩⟩, fun e1 => (hy.2 e1)⟩) n _ hn) (lk_base_Ints_0 p0 p1 (0 : Int) K (hp0 e0) h))))
theorem sp_same_eq : ∀ (a b : List Int), a.length = b.length → sp_same a b = decide (a = b)
  | [], b, h => by
    have : b = [] := List.length_eq_zero_iff.1 h.symm
    subst this; rfl
  | x :: r, [], h => by cases h
  | x :: r, y :: s, h => by
    have ih := sp_same_eq r s (by simpa using h)
    unfold sp_same
    rw [show (y :: s).getD 0 0 = y from rfl, show (y :: s).drop 1 = s from rfl, ih]
    by_cases hx : x = y
    · subst hx; simp
    · simp [hx]
abbrev t_base_Ints (p0 p1 : List Int) : Bool := decide (p0 = p1)
abbrev qre_base_Ints (p0 _ : List Int) : List Prop := [lenOk p0]
theorem pp_base_Ints (p0 p1 : List Int) (hq : ∀ p ∈ qre_base_Ints p0 p1, p) : ∀ p ∈ pre_base_Ints p0 p1, p := by
  have hv := (conj_of hq).1
  intro p hp
  simp only [pre_base_Ints, List.mem_cons, List.not_mem_nil, or_false] at hp
  subst hp
  intro h
  have h' : (p0.length : Int) = p1.length := by simpa using h
  exact ⟨hv, by omega, rfl⟩
theorem tt_base_Ints (p0 p1 : List Int) (_ : ∀ p ∈ qre_base_Ints p0 p1, p) : s_base_Ints p0 p1 = t_base_Ints p0 p1 := by
  unfold s_base_Ints t_base_Ints
  by_cases h : p0.length = p1.length
  · rw [show ((p0.length : Int) != (p1.length : Int)) = false by simp [h]]
    exact sp_same_eq p0 p1 h
  · rw [show ((p0.length : Int) != (p1.length : Int)) = true by simp; omega]
    have : p0 ≠ p1 := fun e => h (congrArg List.length e)
    simp [this]

abbrev con_base_Ints : Con := ⟨P_base_Ints, R_base_Ints, fun x => qre_base_Ints x.1 x.2, fun x => t_base_Ints x.1 x.2⟩
theorem ok_base_Ints : ConOk Try.prog 53 con_base_Ints := ⟨k_base_Ints, fun x hx => ret_tf (ps := P_base_Ints) (rs := R_base_Ints) (x := x) (y := t_base_Ints x.1 x.2) e_base_Ints hC_base_Ints (tf_of (w_base_Ints_eq x.1 x.2 (fun z => z = t_base_Ints x.1 x.2)) (d_base_Ints x.1 x.2 (fun z => z = t_base_Ints x.1 x.2) (pp_base_Ints x.1 x.2 hx) (tt_base_Ints x.1 x.2 hx)))⟩
end Go.Proofs.Ytonjnpefnbnohaa
