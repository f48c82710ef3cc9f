/- GroundMonotone: the given statement is proved: at every input the law returns true, and the input reads as it did. No condition. -/
import Derived.Test.YtehblgccaiiikaaWalkGroundMonotone
import Derived.Test.YtehblgccaiiikaaLayB
import Derived.Test.YtehblgccaiiikaaMxU
import Derived.Test.YtehblgccaiiikaaRows
import Derived.ProofKit
namespace Go.Proofs.Ytehblgccaiiikaa
open Go Go.Mx
set_option maxRecDepth 100000
theorem tx_cm_of {l : List (Int × Int)} (h : v_mok l) : v_cm l = (0, 0) := by
  unfold v_cm
  have h0 : 0 < l.length := List.length_pos_iff.2 h.ne
  have h4 := h.len
  rw [show ((l.length : Int) == 0) = false from beq_eq_false_iff_ne.2 (by omega), decide_eq_false (show ¬ (l.length : Int) > 4 by omega)]
  simp only [cond_false]
  have key : ∀ (r a : List (Int × Int)), l = a ++ r → v_scan (v_cm1 l.length) ((0, 0) : Int × Int) (a.length : Int) r = (0, 0) := by
    intro r
    induction r with
    | nil => intro a _; rfl
    | cons x r ih =>
      intro a e
      have hx := h.ok x (by rw [e]; simp)
      have hn : v_cm1 l.length (a.length : Int) x = none := by
        unfold v_cm1
        rw [tx_within.2 hx.c, tx_within.2 hx.t]
        cases c : ((a.length : Int) == (l.length : Int) - 1)
        · rfl
        · have c := beq_iff_eq.1 c
          have : r = [] := by
            rw [e] at c
            simp only [List.length_append, List.length_cons] at c
            exact List.length_eq_zero_iff.1 (by omega)
          subst this
          rw [h.last a x e]; rfl
      unfold v_scan
      rw [hn]
      have := ih (a ++ [x]) (by rw [e]; simp)
      rw [List.length_append, List.length_singleton, Int.natCast_add] at this
      exact this
  exact key l [] rfl
theorem tx_respAt {l : List (Int × Int)} {s : Int} (h : v_mok l) (hs : v_sok s) : v_respAt l s = s_ground_quotient_frac (v_frac (v_resp s l)) := by
  unfold v_respAt
  rw [tx_cm_of h, tx_within.2 hs]; rfl
/-- A response that is small, or too great. -/
structure v_rs (f : Int × Int) : Prop where
  n : 0 < f.1 ∧ f.1 ≤ 1000000000
  d : 0 < f.2 ∧ f.2 ≤ 1000000000
  g : v_gcd f.1 f.2 = 1
theorem tx_frac {l : List (Int × Int)} {s : Int} (h : v_mok l) (hs : v_sok s) : (s_ground_quotient_frac (v_frac (v_resp s l)) = (v_frac (v_resp s l), 0) ∧ v_rs (v_frac (v_resp s l))) ∨ s_ground_quotient_frac (v_frac (v_resp s l)) = ((0, 0), 8) := by
  have hp := v_resp_small hs h
  have hg := v_frac_gcd (v_resp s l)
  unfold s_ground_quotient_frac
  generalize v_frac (v_resp s l) = f at *
  rcases dec0 (a := 1000000000) (b := f.1) with ⟨_, _, _, _, e1⟩ | ⟨h1, _, _, _, e1⟩ <;> rcases dec0 (a := 1000000000) (b := f.2) with ⟨_, _, _, _, e2⟩ | ⟨h2, _, _, _, e2⟩ <;> rw [e1, e2]
  · exact .inr rfl
  · exact .inr rfl
  · exact .inr rfl
  · exact .inl ⟨rfl, ⟨by omega, by omega, hg⟩⟩
theorem v_rs.low {f : Int × Int} (h : v_rs f) : t_base_IsLowest f = true := by
  unfold t_base_IsLowest
  rw [decide_eq_true h.d.1, h.g]; rfl
theorem v_rs.small {f : Int × Int} (h : v_rs f) : s_base_IsSmall f = true := by
  unfold s_base_IsSmall
  rw [tx_within.2 (by have := h.n; omega), tx_within.2 (by have := h.d; omega)]; rfl
theorem v_rs.gok {f : Int × Int} (h : v_rs f) : v_gok f.1 f.2 := v_gok_of (by have := h.n; unfold v_fit; omega) (by have := h.d; unfold v_fit; omega)
theorem v_rs.cmp {f g : Int × Int} (hf : v_rs f) (hg : v_rs g) : s_base_Cmp f g = v_cmp (f.1 * g.2) (g.1 * f.2) := by
  unfold s_base_Cmp v_cmp
  have m1 := mul_in (Int.le_of_lt hf.n.1) hf.n.2 (Int.le_of_lt hg.d.1) hg.d.2
  have m2 := mul_in (Int.le_of_lt hg.n.1) hg.n.2 (Int.le_of_lt hf.d.1) hf.d.2
  rw [wrap_id (n := f.1 * g.2) (by omega) (by omega), wrap_id (n := g.1 * f.2) (by omega) (by omega)]
theorem v_rs.cmple {p q : Rat} (hp : v_rs (v_frac p)) (hq : v_rs (v_frac q)) (h : p ≤ q) : decide (s_base_Cmp (v_frac q) (v_frac p) < 0) = false ∧ decide (s_base_Cmp (v_frac p) (v_frac q) ≤ 0) = true := by
  have := v_rle_frac.1 h
  constructor
  · rw [hq.cmp hp]
    refine decide_eq_false fun h => ?_
    have := v_cmp_lt.1 h
    omega
  · rw [hp.cmp hq]
    refine decide_eq_true ?_
    rcases Int.lt_or_le 0 (v_cmp ((v_frac p).1 * (v_frac q).2) ((v_frac q).1 * (v_frac p).2)) with h | h
    · have := v_cmp_gt.1 h; omega
    · exact h

theorem v_above_set : ∀ {l : List (Int × Int)} {k : Nat} {c : Int}, (l.getD k (0, 0)).1 ≤ c → v_above l (l.set k (c, (l.getD k (0, 0)).2))
  | [], k, c, _ => by simp; exact .nil
  | x :: r, 0, c, h => .cons h rfl (v_above_refl r)
  | x :: r, k + 1, c, h => .cons (Int.le_refl _) rfl (v_above_set (l := r) (k := k) (c := c) h)
where
  v_above_refl : ∀ (l : List (Int × Int)), v_above l l
    | [] => .nil
    | x :: r => .cons (Int.le_refl _) rfl (v_above_refl r)
theorem v_mok_set {l : List (Int × Int)} {k : Nat} {c : Int} (h : v_mok l) (hk : k < l.length) (hc : 1 ≤ c ∧ c ≤ 20) : v_mok (l.set k (c, (l.getD k (0, 0)).2)) := by
  have hg : v_lok (l.getD k (0, 0)) := h.ok _ (getD_mem' _ hk)
  refine ⟨fun e => h.ne (by simpa using e), by rw [List.length_set]; exact h.len, fun x hx => ?_, fun a x e => ?_⟩
  · rcases List.mem_or_eq_of_mem_set hx with hx | rfl
    · exact h.ok x hx
    · exact ⟨hc, hg.t⟩
  · have hl : (l.set k (c, (l.getD k (0, 0)).2)).length = a.length + 1 := by rw [e]; simp
    rw [List.length_set] at hl
    have hlast : l = l.take a.length ++ [l.getD a.length (0, 0)] := by
      have := List.take_append_drop a.length l
      rw [drop_getD (0, 0) (by omega), List.drop_eq_nil_of_le (by omega)] at this
      exact this.symm
    have h1 := h.last _ _ hlast
    have h2 : (l.set k (c, (l.getD k (0, 0)).2)).getD a.length (0, 0) = x := by rw [e]; simp
    rw [gd_set hk] at h2
    split at h2
    · rename_i e'; subst h2; rw [← e']; exact h1
    · rw [← h2]; exact h1
theorem v_mok_cons {l : List (Int × Int)} {x : Int × Int} (h : v_mok l) (hl : l.length < 4) (hx : v_lok x) : v_mok (x :: l) := by
  refine ⟨by simp, by simp; omega, fun y hy => ?_, fun a y e => ?_⟩
  · rcases List.mem_cons.1 hy with rfl | hy
    · exact hx
    · exact h.ok y hy
  · cases a with
    | nil => simp at e; exact absurd e.2 h.ne
    | cons z a => simp at e; exact h.last a y e.2
/-- The plain law. -/
theorem plain_law04_GroundMonotone (p0 : List (Int × Int)) (p1 : Int) (p2 : Int × Int) (_ : okPs P_law04_GroundMonotone (p0, p1, p2)) : (∀ p ∈ pre_law04_GroundMonotone p0 p1 p2, p) ∧ s_law04_GroundMonotone p0 p1 p2 = true := by
  have hG : (cond (cond (!(decide ((p0.length : Int) ≤ 6))) true ((v_cm p0).2 != 0)) true ((cond (!(s_base_Within p1 1 20)) 2 0 : Int) != 0)) = false → v_mok p0 ∧ v_sok p1 := by
    intro h
    cases c1 : decide ((p0.length : Int) ≤ 6) <;> rw [c1] at h
    · cases h
    rcases int0 (v_cm p0).2 with ⟨z, e, _⟩ | ⟨z, e, _⟩ <;> rw [e] at h
    · cases c2 : s_base_Within p1 1 20 <;> rw [c2] at h
      · cases h
      · exact ⟨tx_cm_ok z, tx_within.1 c2⟩
    · cases h
  unfold pre_law04_GroundMonotone s_law04_GroundMonotone
  simp only [List.forall_mem_cons, List.nil_append, List.length_nil, show Int.toNat 0 = 0 from rfl]
  generalize (cond (cond (!(decide ((p0.length : Int) ≤ 6))) true ((v_cm p0).2 != 0)) true ((cond (!(s_base_Within p1 1 20)) 2 0 : Int) != 0)) = G at *
  cases G
  rotate_left
  · simp
  obtain ⟨hm, hs⟩ := hG rfl
  have hlen := hm.len
  have h0 : 0 < p0.length := List.length_pos_iff.2 hm.ne
  rw [tx_respAt hm hs]
  rcases tx_frac hm hs with ⟨e, hr⟩ | e
  rotate_left
  · rw [e]; simp; omega
  rw [e]
  simp only [cond_false, forall_const]
  suffices hL : OkL (st_law04_GroundMonotone_0 p0 p1 p2) (sp_law04_GroundMonotone_0 p0 p1 p2) (0, (p0.getD 0 (0, 0)).1, (p0.getD 0 (0, 0)).1) ∧ lpv false (st_law04_GroundMonotone_0 p0 p1 p2) (0, (p0.getD 0 (0, 0)).1, (p0.getD 0 (0, 0)).1) = true by
    refine ⟨⟨by omega, fun _ => by omega, fun _ => hL.1, by simp⟩, hL.2⟩
  -- the loop over all layers
  refine for_is (dd := false) (st := st_law04_GroundMonotone_0 p0 p1 p2) (sp := sp_law04_GroundMonotone_0 p0 p1 p2) (fun i (t : Int × Int) => (i, t)) 0 p0.length
    (fun j t => (∀ x ∈ p0.take j, t.2 ≤ x.1 ∧ x.1 ≤ t.1) ∧ (1 ≤ t.2 ∧ t.1 ≤ 20) ∧ (t.2 ≤ 20 ∧ 1 ≤ t.1)) (fun _ _ => true) (by omega) (by omega) ?_ ?_ _ ⟨by simp, ?_⟩
  · -- the end
    rintro ⟨hi, lo⟩ ⟨h1, h2, h3⟩
    rw [List.take_length] at h1
    have hd : decide ((p0.length : Int) < (p0.length : Int)) = false := decide_eq_false (by omega)
    -- the bounds
    have blo := v_resp_lo (s := p1) (lo := (lo : Rat)) (by omega) (v_rpos (by simp only at h2; omega)) hm.ne hm.ok (fun x hx => v_rcast.2 (h1 x hx).1)
    have bhi := v_resp_hi (s := p1) (hi := (hi : Rat)) (by omega) hm.ne hm.ok (fun x hx => v_rcast.2 (h1 x hx).2)
    have blo := v_rle_frac.1 blo
    have bhi := v_rle_frac.1 bhi
    have el : v_frac (lo : Rat) = (lo, 1) := rfl
    have eh : v_frac (hi : Rat) = (hi, 1) := rfl
    rw [el] at blo
    rw [eh] at bhi
    simp only at blo bhi h2 h3
    have c1 : decide (v_cmp ((v_frac (v_resp p1 p0)).1 * 1) (lo * (v_frac (v_resp p1 p0)).2) < 0) = false := decide_eq_false fun h => by have := v_cmp_lt.1 h; omega
    have c2 : decide (v_cmp ((v_frac (v_resp p1 p0)).1 * 1) (hi * (v_frac (v_resp p1 p0)).2) > 0) = false := decide_eq_false fun h => by have := v_cmp_gt.1 h; omega
    -- a greater conductivity
    have hk0 : 0 ≤ p2.1 % (p0.length : Int) := Int.emod_nonneg _ (by omega)
    have hk1 : p2.1 % (p0.length : Int) < p0.length := Int.emod_lt_of_pos _ (by omega)
    have hkn : (p2.1 % (p0.length : Int)).toNat < p0.length := by omega
    have hx := hm.ok _ (getD_mem' (0, 0) hkn)
    have hxc := hx.c
    have w1 : IntKind.i64.wrap (IntKind.i64.wrap (20 - (p0.getD (p2.1 % (p0.length : Int)).toNat (0, 0)).1) + 1) = 20 - (p0.getD (p2.1 % (p0.length : Int)).toNat (0, 0)).1 + 1 := by
      rw [w_add_l]; exact wrap_id (by omega) (by omega)
    have hm0 := Int.emod_nonneg p2.2 (show 20 - (p0.getD (p2.1 % (p0.length : Int)).toNat (0, 0)).1 + 1 ≠ 0 by omega)
    have hm1 := Int.emod_lt_of_pos p2.2 (show 0 < 20 - (p0.getD (p2.1 % (p0.length : Int)).toNat (0, 0)).1 + 1 by omega)
    have w2 : IntKind.i64.wrap ((p0.getD (p2.1 % (p0.length : Int)).toNat (0, 0)).1 + p2.2 % (20 - (p0.getD (p2.1 % (p0.length : Int)).toNat (0, 0)).1 + 1)) = (p0.getD (p2.1 % (p0.length : Int)).toNat (0, 0)).1 + p2.2 % (20 - (p0.getD (p2.1 % (p0.length : Int)).toNat (0, 0)).1 + 1) := wrap_id (by omega) (by omega)
    have hmore : v_mok (p0.set (p2.1 % (p0.length : Int)).toNat ((p0.getD (p2.1 % (p0.length : Int)).toNat (0, 0)).1 + p2.2 % (20 - (p0.getD (p2.1 % (p0.length : Int)).toNat (0, 0)).1 + 1), (p0.getD (p2.1 % (p0.length : Int)).toNat (0, 0)).2)) := v_mok_set hm hkn (by omega)
    have hge := v_resp_mono (s := p1) (by omega) (v_above_set (l := p0) (k := (p2.1 % (p0.length : Int)).toNat) (c := (p0.getD (p2.1 % (p0.length : Int)).toNat (0, 0)).1 + p2.2 % (20 - (p0.getD (p2.1 % (p0.length : Int)).toNat (0, 0)).1 + 1)) (by omega)) hm.ok hmore.ok
    -- a layer more
    have hmm0 := Int.emod_nonneg p2.2 (show (20 : Int) ≠ 0 by decide)
    have hmm1 := Int.emod_lt_of_pos p2.2 (show (0 : Int) < 20 by decide)
    have w3 : IntKind.i64.wrap (1 + p2.2 % 20) = 1 + p2.2 % 20 := wrap_id (by omega) (by omega)
    have hthin : ∀ c : Int, 1 ≤ c ∧ c ≤ 20 → p0.length < 4 → v_respAt ((c, 0) :: p0) p1 = (v_frac (v_resp p1 p0), 0) := by
      intro c hc hl
      rw [tx_respAt (v_mok_cons hm hl ⟨hc, by simp only; omega⟩) hs, v_resp_c p1 _ hm.ne, v_step_thin (by omega) (by omega), e]
    have hc0 := (hm.ok _ (getD_mem' (0, 0) h0)).c
    have hfit : v_fit lo ∧ v_fit hi ∧ v_fit (1 : Int) := by unfold v_fit; omega
    have hff : v_fit (v_frac (v_resp p1 p0)).1 ∧ v_fit (v_frac (v_resp p1 p0)).2 := by have := hr.n; have := hr.d; unfold v_fit; omega
    have eM := tx_respAt hmore hs
    have eL : (p0.length : Int) = 4 ∨ p0.length < 4 := by omega
    simp only [sp_law04_GroundMonotone_0, st_law04_GroundMonotone_0, List.nil_append, hd, cond_false, List.forall_mem_cons, w1, w2, w3, tx_respAt hm hs, e, c1, c2, hr.low, hr.small, eM, Bool.not_true, show Int.toNat 0 = 0 from rfl]
    generalize p0.set (p2.1 % (p0.length : Int)).toNat ((p0.getD (p2.1 % (p0.length : Int)).toNat (0, 0)).1 + p2.2 % (20 - (p0.getD (p2.1 % (p0.length : Int)).toNat (0, 0)).1 + 1), (p0.getD (p2.1 % (p0.length : Int)).toNat (0, 0)).2) = M at *
    have hrg := hr.gok
    have hrd := hr.d
    rcases tx_frac hmore hs with ⟨e', hr'⟩ | e'
    · have hle := (hr.cmple hr' hge).1
      have hrg' := hr'.gok
      simp only [e', hr'.low, hr'.small, hle]
      rcases eL with eL | eL
      · refine ⟨?_, by rw [show ((p0.length : Int) == 4) = true from beq_iff_eq.2 eL]; rfl⟩
        and_intros
        all_goals first | (intro p hp; cases hp; done) | (intros; first | rfl | assumption | exact hff.1 | exact hff.2 | exact hfit.1 | exact hfit.2.1 | exact hfit.2.2 | exact hrd.1 | contradiction | (simp; omega) | omega)
      · have e4 : ((p0.length : Int) == 4) = false := beq_eq_false_iff_ne.2 (by omega)
        rw [e4, List.singleton_append, List.singleton_append, hthin _ (by omega) eL, hthin _ hc0 eL]
        refine ⟨?_, by simp⟩
        and_intros
        all_goals first | (intro p hp; cases hp; done) | (intros; first | rfl | assumption | exact hff.1 | exact hff.2 | exact hfit.1 | exact hfit.2.1 | exact hfit.2.2 | exact hrd.1 | contradiction | (simp; omega) | omega)
    · simp only [e']
      rcases eL with eL | eL
      · refine ⟨?_, by rw [show ((p0.length : Int) == 4) = true from beq_iff_eq.2 eL]; rfl⟩
        and_intros
        all_goals first | (intro p hp; cases hp; done) | (intros; first | rfl | assumption | exact hff.1 | exact hff.2 | exact hfit.1 | exact hfit.2.1 | exact hfit.2.2 | exact hrd.1 | contradiction | (simp; omega) | omega)
      · have e4 : ((p0.length : Int) == 4) = false := beq_eq_false_iff_ne.2 (by omega)
        rw [e4, List.singleton_append, List.singleton_append, hthin _ (by omega) eL, hthin _ hc0 eL]
        refine ⟨?_, by simp⟩
        and_intros
        all_goals first | (intro p hp; cases hp; done) | (intros; first | rfl | assumption | exact hff.1 | exact hff.2 | exact hfit.1 | exact hfit.2.1 | exact hfit.2.2 | exact hrd.1 | contradiction | (simp; omega) | omega)
  · -- a round
    rintro j ⟨hi, lo⟩ _ hj ⟨h1, h2, h3⟩
    have hx := (hm.ok _ (getD_mem' (0, 0) hj)).c
    have hd : decide ((j : Int) < (p0.length : Int)) = true := decide_eq_true (by omega)
    refine ⟨?_, .inl ⟨(max hi (p0.getD j (0, 0)).1, min lo (p0.getD j (0, 0)).1), ?_, ⟨fun x hx' => ?_, ?_, ?_⟩, rfl⟩⟩
    · simp only [sp_law04_GroundMonotone_0, hd, List.forall_mem_cons]
      and_intros
      all_goals first | (intro p hp; cases hp; done) | (intros; first | omega | contradiction)
    · simp only [st_law04_GroundMonotone_0, hd, cond_true, Int.toNat_natCast]
      rw [wrap_nat (by omega)]
    · rw [List.take_succ_eq_append_getElem hj, List.mem_append, List.mem_singleton] at hx'
      have : p0[j] = p0.getD j (0, 0) := (gd_get (0, 0) hj).symm
      simp only at h1 ⊢
      rcases hx' with hx' | rfl
      · have := h1 x hx'; omega
      · rw [this]; omega
    · simp only at h2 ⊢; omega
    · simp only at h3 ⊢; omega
  · have hx := (hm.ok _ (getD_mem' (0, 0) h0)).c
    simp only
    omega

theorem own : ownKnob Try.prog.godebug = none := by kernel_rfl
theorem laidOut : laidOutB Try.prog = true := by kernel_rfl
theorem hfn4 : Try.prog.funcs[4]? = some (fnOf Try.prog 4) := by kernel_rfl
theorem hps4 : (fnOf Try.prog 4).params.size = 3 := by kernel_rfl
theorem lifted_GroundMonotone (os : Os) (started : os.Started) (H : Type) (enc : TypeId × Value → H) :
    ReturnsInHanded {} Try.checked os 4 .any (Rows.groundMonotoneSpec.pre6 enc Try.prog (fnOf Try.prog 4) [] false) (Rows.groundMonotoneSpec.post enc Try.prog (fnOf Try.prog 4) false true false false) :=
  said_of (C := Try.checked) (ss := P_law04_GroundMonotone.map shP) own started (by kernel_rfl) hfn4
    (ChangeSpec.witness6 (enc := enc) (C := Try.checked) false ⟨#[], zeroArgs P_law04_GroundMonotone, []⟩ 8 (by kernel_rfl) (by kernel_rfl) (by kernel_rfl) (by kernel_rfl)) rfl
    (fun ds h => by
      rw [hps4] at h
      match ds, h with
      | [_, _, _], _ => rfl)
    laidOut (by kernel_rfl) (rt := (fnOf Try.prog 4).resultTypes.getD 0 0) (by kernel_rfl) (by kernel_rfl) (by kernel_rfl)
    (law_of ok_law04_GroundMonotone fun x hx => ⟨(plain_law04_GroundMonotone x.1 x.2.1 x.2.2 hx).1, congrArg (fun b => V.p (.bool b)) (plain_law04_GroundMonotone x.1 x.2.1 x.2.2 hx).2⟩) (fun _ => rfl)
theorem GroundMonotone_holds : Rows.GroundMonotoneSaid :=
  OpenClaim.holds_of_wide 4 (fnOf Try.prog 4) rfl rfl rfl rfl rfl rfl rfl ⟨rfl, rfl, rfl, rfl, rfl⟩ rfl rfl rfl rfl rfl (by kernel_rfl) hfn4 (by kernel_rfl)
    (of_decide_eq_true (by kernel_rfl)) (by unfold Func.isWrapper; first | (rw [if_pos (by decide +kernel)]; kernel_rfl) | (rw [if_neg (by decide +kernel)]; exact ⟨rfl, rfl⟩))
    (fun os started H enc _ => lifted_GroundMonotone os started H enc)
end Go.Proofs.Ytehblgccaiiikaa
