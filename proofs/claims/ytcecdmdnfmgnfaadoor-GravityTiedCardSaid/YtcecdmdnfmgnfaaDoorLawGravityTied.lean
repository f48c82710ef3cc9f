/- GravityTied: the given statement is proved: at every input the law returns true, and the input reads as it did. No condition. -/
import Derived.Test.YtcecdmdnfmgnfaaDoorWalkGravityTied
import Derived.Test.YtcecdmdnfmgnfaaDoorLayB
import Derived.Test.YtcecdmdnfmgnfaaDoorMxUl
import Derived.Test.YtcecdmdnfmgnfaaDoorRows
import Derived.Test.YtcecdmdnfmgnfaaDoorCards
import Derived.Test.YtcecdmdnfmgnfaaDoorTie
import Derived.ProofKit
import Derived.SevenTiedAt
namespace Go.Proofs.YtcecdmdnfmgnfaaDoor
open Go Go.Mx
set_option maxRecDepth 100000
/-! Bounds that are kept one after the other. -/
abbrev BFs := Nat → Option Int
abbrev BFb := Nat × Nat × Int
/-- A bound is violated. -/
def bf_vio (σ : BFs) (b : BFb) : Bool := match σ b.2.1, σ b.1 with
  | some x, some y => decide (x + b.2.2 < y)
  | some _, none => true
  | none, _ => false
def bf_rx (σ : BFs) (b : BFb) : BFs := match σ b.2.1 with
  | some x => fun i => cond (bf_vio σ b && decide (i = b.1)) (some (x + b.2.2)) (σ i)
  | none => σ
theorem bf_vio_some {σ : BFs} {b : BFb} (h : bf_vio σ b = true) : ∃ x, σ b.2.1 = some x ∧ (∀ y, σ b.1 = some y → x + b.2.2 < y) := by
  unfold bf_vio at h
  split at h
  · rename_i x y hx hy
    exact ⟨x, hx, fun z hz => by rw [hy] at hz; cases hz; simpa using h⟩
  · rename_i x hx hy
    exact ⟨x, hx, fun z hz => by rw [hy] at hz; cases hz⟩
  · cases h
theorem bf_vio_of {σ : BFs} {b : BFb} {x : Int} (hx : σ b.2.1 = some x) (h : ∀ y, σ b.1 = some y → x + b.2.2 < y) : bf_vio σ b = true := by
  unfold bf_vio
  rw [hx]
  cases hy : σ b.1 with
  | none => rfl
  | some y => simpa using h y hy
theorem bf_ok {σ : BFs} {b : BFb} (h : bf_vio σ b = false) {x : Int} (hx : σ b.2.1 = some x) : ∃ y, σ b.1 = some y ∧ y ≤ x + b.2.2 := by
  unfold bf_vio at h
  rw [hx] at h
  cases hy : σ b.1 with
  | none => rw [hy] at h; cases h
  | some y => rw [hy] at h; exact ⟨y, rfl, by have := of_decide_eq_false h; omega⟩
theorem bf_ok_of {σ : BFs} {b : BFb} (h : ∀ x, σ b.2.1 = some x → ∃ y, σ b.1 = some y ∧ y ≤ x + b.2.2) : bf_vio σ b = false := by
  cases hv : bf_vio σ b with
  | false => rfl
  | true =>
    obtain ⟨x, hx, h1⟩ := bf_vio_some hv
    obtain ⟨y, hy, h2⟩ := h x hx
    have := h1 y hy
    omega
theorem bf_rx_no {σ : BFs} {b : BFb} (h : bf_vio σ b = false) : bf_rx σ b = σ := by
  unfold bf_rx
  rw [h]
  split
  · funext i; rfl
  · rfl
theorem bf_rx_yes {σ : BFs} {b : BFb} {x : Int} (h : bf_vio σ b = true) (hx : σ b.2.1 = some x) (i : Nat) : bf_rx σ b i = if i = b.1 then some (x + b.2.2) else σ i := by
  unfold bf_rx
  rw [hx, h]
  by_cases hi : i = b.1 <;> simp [hi]
def bf_feas (B : List BFb) (w : Nat → Int) : Prop := ∀ b ∈ B, w b.1 ≤ w b.2.1 + b.2.2
/-- Violated bounds start at m at least. -/
def bf_J (B : List BFb) (w : Nat → Int) (m : Int) (σ : BFs) : Prop := ∀ b ∈ B, bf_vio σ b = true → ∀ x, σ b.2.1 = some x → m ≤ x - w b.2.1
theorem bf_J_rx {B : List BFb} {w : Nat → Int} {m : Int} {σ : BFs} (hf : bf_feas B w) (h : bf_J B w m σ) {b : BFb} (hb : b ∈ B) : bf_J B w m (bf_rx σ b) := by
  cases hv : bf_vio σ b with
  | false => rw [bf_rx_no hv]; exact h
  | true =>
    obtain ⟨x, hx, h1⟩ := bf_vio_some hv
    have hm := h b hb hv x hx
    have hfb := hf b hb
    intro c hc hcv z hz
    rw [bf_rx_yes hv hx] at hz
    split at hz
    · rename_i e
      cases hz
      rw [e]; omega
    · rename_i e
      refine h c hc (bf_vio_of hz fun y hy => ?_) z hz
      obtain ⟨z', hz', h2⟩ := bf_vio_some hcv
      rw [bf_rx_yes hv hx, if_neg e, hz] at hz'
      cases hz'
      by_cases e2 : c.1 = b.1
      · have h3 := h2 (x + b.2.2) (by rw [bf_rx_yes hv hx, if_pos e2])
        have h4 := h1 y (by rw [← e2]; exact hy)
        omega
      · exact h2 y (by rw [bf_rx_yes hv hx, if_neg e2]; exact hy)
theorem bf_J_keep {B : List BFb} {w : Nat → Int} {m : Int} {σ : BFs} (hf : bf_feas B w) (h : bf_J B w m σ) {b : BFb} (hb : b ∈ B) {i : Nat} {x : Int} (hx : σ i = some x) (hm : x - w i ≤ m) : bf_rx σ b i = some x := by
  cases hv : bf_vio σ b with
  | false => rw [bf_rx_no hv]; exact hx
  | true =>
    obtain ⟨z, hz, h1⟩ := bf_vio_some hv
    rw [bf_rx_yes hv hz]
    split
    · rename_i e
      subst e
      have h2 := h1 x hx
      have h3 := h b hb hv z hz
      have h4 := hf b hb
      omega
    · exact hx
theorem bf_mono {σ : BFs} {b : BFb} {i : Nat} {y : Int} (hy : σ i = some y) : ∃ z, bf_rx σ b i = some z ∧ z ≤ y := by
  cases hv : bf_vio σ b with
  | false => rw [bf_rx_no hv]; exact ⟨y, hy, Int.le_refl _⟩
  | true =>
    obtain ⟨x, hx, h1⟩ := bf_vio_some hv
    rw [bf_rx_yes hv hx]
    split
    · rename_i e
      subst e
      exact ⟨_, rfl, by have := h1 y hy; omega⟩
    · exact ⟨y, hy, Int.le_refl _⟩
theorem bf_fold {P : BFs → Prop} {B : List BFb} (h : ∀ σ, P σ → ∀ b ∈ B, P (bf_rx σ b)) : ∀ (l : List BFb), (∀ b ∈ l, b ∈ B) → ∀ σ, P σ → P (l.foldl bf_rx σ)
  | [], _, σ, hp => hp
  | b :: l, hl, σ, hp => bf_fold h l (fun c hc => hl c (by simp [hc])) _ (h σ hp b (hl b (by simp)))
def bf_rd (B : List BFb) (σ : BFs) : BFs := B.foldl bf_rx σ
theorem bf_after {B : List BFb} {w : Nat → Int} {m : Int} {σ : BFs} (hf : bf_feas B w) (h : bf_J B w m σ) {b : BFb} (hb : b ∈ B) {x : Int} (hx : σ b.2.1 = some x) (hm : x - w b.2.1 ≤ m) : bf_vio (bf_rd B σ) b = false := by
  obtain ⟨l1, l2, e⟩ := List.append_of_mem hb
  have hl1 : ∀ c ∈ l1, c ∈ B := fun c hc => by rw [e]; simp [hc]
  have hl2 : ∀ c ∈ l2, c ∈ B := fun c hc => by rw [e]; simp [hc]
  have step : ∀ σ, (bf_J B w m σ ∧ σ b.2.1 = some x) → ∀ c ∈ B, (bf_J B w m (bf_rx σ c) ∧ bf_rx σ c b.2.1 = some x) := fun σ ⟨h1, h2⟩ c hc => ⟨bf_J_rx hf h1 hc, bf_J_keep hf h1 hc h2 hm⟩
  obtain ⟨g1, g2⟩ := bf_fold step l1 hl1 σ ⟨h, hx⟩
  generalize hs : l1.foldl bf_rx σ = s1 at g1 g2
  have g3 : ∃ y, bf_rx s1 b b.1 = some y ∧ y ≤ x + b.2.2 := by
    cases hv : bf_vio s1 b with
    | false => rw [bf_rx_no hv]; exact bf_ok hv g2
    | true => exact ⟨_, by rw [bf_rx_yes hv g2, if_pos rfl], Int.le_refl _⟩
  have step2 : ∀ σ, (bf_J B w m σ ∧ σ b.2.1 = some x ∧ ∃ y, σ b.1 = some y ∧ y ≤ x + b.2.2) → ∀ c ∈ B, (bf_J B w m (bf_rx σ c) ∧ bf_rx σ c b.2.1 = some x ∧ ∃ y, bf_rx σ c b.1 = some y ∧ y ≤ x + b.2.2) := fun σ ⟨h1, h2, y, h3, h4⟩ c hc => by
    obtain ⟨z, z1, z2⟩ := bf_mono (b := c) h3
    exact ⟨bf_J_rx hf h1 hc, bf_J_keep hf h1 hc h2 hm, z, z1, by omega⟩
  obtain ⟨k1, k2⟩ := step s1 ⟨g1, g2⟩ b hb
  obtain ⟨_, f2, f3⟩ := bf_fold step2 l2 hl2 (bf_rx s1 b) ⟨k1, k2, g3⟩
  refine bf_ok_of fun z hz => ?_
  unfold bf_rd at hz ⊢
  rw [e, List.foldl_append, List.foldl_cons, hs] at hz ⊢
  rw [f2] at hz
  cases hz
  exact f3
def bf_set (w : Nat → Int) (m : Int) (σ : BFs) (i : Nat) : Bool := match σ i with
  | some x => decide (x - w i ≤ m)
  | none => false
theorem bf_count {p q : Nat → Bool} : ∀ {n : Nat}, (∀ i, p i = true → q i = true) → (List.range n).countP p ≤ (List.range n).countP q
  | n, h => by
    induction n with
    | zero => simp
    | succ n ih =>
      rw [List.range_succ, List.countP_append, List.countP_append]
      have : List.countP p [n] ≤ List.countP q [n] := by
        rw [List.countP_singleton, List.countP_singleton]
        cases hp : p n with
        | false => simp
        | true => rw [h n hp]; simp
      omega
theorem bf_count_lt {p q : Nat → Bool} {n k : Nat} (hk : k < n) (h : ∀ i, p i = true → q i = true) (hp : p k = false) (hq : q k = true) : (List.range n).countP p < (List.range n).countP q := by
  induction n with
  | zero => omega
  | succ n ih =>
    rw [List.range_succ, List.countP_append, List.countP_append, List.countP_singleton, List.countP_singleton]
    rcases Nat.lt_or_ge k n with hk' | hk'
    · have h1 := ih hk'
      cases hpn : p n with
      | false => simp; omega
      | true => rw [h n hpn]; simp; omega
    · have : k = n := by omega
      subst this
      have := bf_count (n := k) h
      rw [hp, hq]; simp; omega
theorem bf_min {α : Type} (f : α → Int) : ∀ (l : List α), l ≠ [] → ∃ a ∈ l, ∀ b ∈ l, f a ≤ f b
  | [], h => (h rfl).elim
  | [a], _ => ⟨a, by simp, fun b hb => by simp at hb; subst hb; exact Int.le_refl _⟩
  | a :: c :: l, _ => by
    obtain ⟨x, hx, h⟩ := bf_min f (c :: l) (by simp)
    rcases Int.le_total (f a) (f x) with g | g
    · refine ⟨a, by simp, fun b hb => ?_⟩
      rcases List.mem_cons.1 hb with rfl | hb
      · exact Int.le_refl _
      · exact Int.le_trans g (h b hb)
    · refine ⟨x, by simp [List.mem_cons.1 hx], fun b hb => ?_⟩
      rcases List.mem_cons.1 hb with rfl | hb
      · exact g
      · exact h b hb
def bf_vios (B : List BFb) (σ : BFs) : Bool := B.any (bf_vio σ)
theorem bf_least {B : List BFb} {σ : BFs} (w : Nat → Int) (h : bf_vios B σ = true) : ∃ b ∈ B, ∃ x, bf_vio σ b = true ∧ σ b.2.1 = some x ∧ bf_J B w (x - w b.2.1) σ := by
  obtain ⟨b0, hb0, hv0⟩ := List.any_eq_true.1 h
  obtain ⟨b, hb, hmin⟩ := bf_min (fun b : BFb => (σ b.2.1).getD 0 - w b.2.1) (B.filter (bf_vio σ)) (List.ne_nil_of_mem (List.mem_filter.2 ⟨hb0, hv0⟩))
  obtain ⟨hb, hv⟩ := List.mem_filter.1 hb
  obtain ⟨x, hx, _⟩ := bf_vio_some hv
  refine ⟨b, hb, x, hv, hx, fun c hc hcv z hz => ?_⟩
  have := hmin c (List.mem_filter.2 ⟨hc, hcv⟩)
  simp only [hx, hz, Option.getD_some] at this
  exact this
def bf_it (B : List BFb) : Nat → BFs → BFs
  | 0, σ => σ
  | r + 1, σ => bf_rd B (bf_it B r σ)
theorem bf_rd_no {B : List BFb} {σ : BFs} (h : bf_vios B σ = false) : bf_rd B σ = σ := by
  have h' : ∀ b ∈ B, bf_vio σ b = false := fun b hb => by
    cases hv : bf_vio σ b with
    | false => rfl
    | true => rw [show bf_vios B σ = true from List.any_eq_true.2 ⟨b, hb, hv⟩] at h; cases h
  have : ∀ l : List BFb, (∀ b ∈ l, bf_vio σ b = false) → l.foldl bf_rx σ = σ := by
    intro l
    induction l with
    | nil => intro _; rfl
    | cons b l ih => intro hl; rw [List.foldl_cons, bf_rx_no (hl b (by simp))]; exact ih (fun c hc => hl c (by simp [hc]))
  exact this B h'
theorem bf_main {B : List BFb} {w : Nat → Int} (hf : bf_feas B w) {n : Nat} (hn : ∀ b ∈ B, b.2.1 < n) (σ : BFs) : ∀ r, bf_vios B (bf_it B r σ) = true → ∃ m, bf_J B w m (bf_it B r σ) ∧ r + 1 ≤ (List.range n).countP (bf_set w m (bf_it B r σ))
  | 0, h => by
    obtain ⟨b, hb, x, hv, hx, hJ⟩ := bf_least w h
    refine ⟨_, hJ, ?_⟩
    have := bf_count_lt (p := fun _ => false) (q := bf_set w (x - w b.2.1) (bf_it B 0 σ)) (hn b hb) (by simp) rfl (by unfold bf_set; rw [hx]; simp)
    omega
  | r + 1, h => by
    have h0 : bf_vios B (bf_it B r σ) = true := by
      cases hv : bf_vios B (bf_it B r σ) with
      | true => rfl
      | false => rw [bf_it, bf_rd_no hv, hv] at h; cases h
    obtain ⟨m, hJ, hc⟩ := bf_main hf hn σ r h0
    obtain ⟨b, hb, x, hv, hx, hJ'⟩ := bf_least w h
    have hJ2 : bf_J B w m (bf_it B (r + 1) σ) := bf_fold (P := bf_J B w m) (fun s hs c hc => bf_J_rx hf hs hc) B (fun _ h => h) _ hJ
    have hm := hJ2 b hb hv x hx
    refine ⟨_, hJ', ?_⟩
    have keep : ∀ i y, bf_it B r σ i = some y → y - w i ≤ m → bf_it B (r + 1) σ i = some y := fun i y hy hym =>
      (bf_fold (P := fun s => bf_J B w m s ∧ s i = some y) (fun s hs c hc => ⟨bf_J_rx hf hs.1 hc, bf_J_keep hf hs.1 hc hs.2 hym⟩) B (fun _ h => h) _ ⟨hJ, hy⟩).2
    have := bf_count_lt (p := bf_set w m (bf_it B r σ)) (q := bf_set w (x - w b.2.1) (bf_it B (r + 1) σ)) (hn b hb) ?_ ?_ ?_
    · omega
    · intro i hi
      unfold bf_set at hi ⊢
      cases hy : bf_it B r σ i with
      | none => rw [hy] at hi; cases hi
      | some y =>
        rw [hy] at hi
        have hi' := of_decide_eq_true hi
        rw [keep i y hy hi']
        exact decide_eq_true (by omega)
    · cases hs : bf_set w m (bf_it B r σ) b.2.1 with
      | false => rfl
      | true =>
        exfalso
        unfold bf_set at hs
        cases hy : bf_it B r σ b.2.1 with
        | none => rw [hy] at hs; cases hs
        | some y =>
          rw [hy] at hs
          have := bf_after hf hJ hb hy (of_decide_eq_true hs)
          rw [show bf_rd B (bf_it B r σ) = bf_it B (r + 1) σ from rfl, hv] at this
          cases this
    · unfold bf_set; rw [hx]; simp
/-- After n rounds all bounds of n stations hold, if there are values that fit. -/
theorem bf_done {B : List BFb} {w : Nat → Int} (hf : bf_feas B w) {n : Nat} (hn : ∀ b ∈ B, b.2.1 < n) (σ : BFs) : bf_vios B (bf_it B n σ) = false := by
  cases h : bf_vios B (bf_it B n σ) with
  | false => rfl
  | true =>
    obtain ⟨m, _, hc⟩ := bf_main hf hn σ n h
    have := List.countP_le_length (p := bf_set w m (bf_it B n σ)) (l := List.range n)
    rw [List.length_range] at this
    omega
/-- What fits is not passed. -/
theorem bf_above {B : List BFb} {u : Nat → Int} (hf : bf_feas B u) {σ : BFs} (h : ∀ i x, σ i = some x → u i ≤ x) {b : BFb} (hb : b ∈ B) : ∀ i x, bf_rx σ b i = some x → u i ≤ x := by
  intro i x hx
  cases hv : bf_vio σ b with
  | false => rw [bf_rx_no hv] at hx; exact h i x hx
  | true =>
    obtain ⟨z, hz, _⟩ := bf_vio_some hv
    rw [bf_rx_yes hv hz] at hx
    split at hx
    · rename_i e
      cases hx
      have := h _ _ hz
      have := hf b hb
      rw [e]; omega
    · exact h i x hx

/-! From lists to what is known of each station. -/
def bf_of (s : List Int × List Bool) : BFs := fun i => cond (s.2.getD i false) (some (s.1.getD i 0)) none
def bf_b (b : Int × Int × Int) : BFb := (b.1.toNat, b.2.1.toNat, b.2.2)
structure bf_ln (n : Nat) (s : List Int × List Bool) : Prop where
  vl : s.1.length = n
  kl : s.2.length = n
theorem bf_ln_rx {n : Nat} {s : List Int × List Bool × Bool} {b : Int × Int × Int} (h : bf_ln n (s.1, s.2.1)) : bf_ln n ((v_rx s b).1, (v_rx s b).2.1) := by
  unfold v_rx
  cases (s.2.1.getD b.2.1.toNat false && (!(s.2.1.getD b.1.toNat false) || decide (s.1.getD b.2.1.toNat 0 + b.2.2 < s.1.getD b.1.toNat 0)))
  · exact h
  · exact ⟨by simpa using h.vl, by simpa using h.kl⟩
theorem bf_cond {s : List Int × List Bool × Bool} {b : Int × Int × Int} : (s.2.1.getD b.2.1.toNat false && (!(s.2.1.getD b.1.toNat false) || decide (s.1.getD b.2.1.toNat 0 + b.2.2 < s.1.getD b.1.toNat 0))) = bf_vio (bf_of (s.1, s.2.1)) (bf_b b) := by
  unfold bf_vio bf_of bf_b
  simp only
  cases s.2.1.getD b.2.1.toNat false <;> cases s.2.1.getD b.1.toNat false <;> simp
theorem bf_of_rx {n : Nat} {s : List Int × List Bool × Bool} {b : Int × Int × Int} (h : bf_ln n (s.1, s.2.1)) (hb : v_bok n b) : bf_of ((v_rx s b).1, (v_rx s b).2.1) = bf_rx (bf_of (s.1, s.2.1)) (bf_b b) ∧ (v_rx s b).2.2 = (s.2.2 || bf_vio (bf_of (s.1, s.2.1)) (bf_b b)) := by
  obtain ⟨vl, kl⟩ := h
  obtain ⟨hb1, hb2, _⟩ := hb
  simp only at vl kl
  unfold v_rx
  rw [bf_cond]
  cases hv : bf_vio (bf_of (s.1, s.2.1)) (bf_b b)
  · simp only [cond_false, Bool.or_false, and_true]
    exact (bf_rx_no hv).symm
  · simp only [cond_true, Bool.or_true, and_true]
    obtain ⟨x, hx, _⟩ := bf_vio_some hv
    funext i
    rw [bf_rx_yes hv hx]
    unfold bf_of bf_b at *
    simp only at hx ⊢
    have e : s.1.getD b.2.1.toNat 0 = x := by
      cases hk : s.2.1.getD b.2.1.toNat false <;> rw [hk] at hx <;> simp at hx
      exact hx
    by_cases hi : i = b.1.toNat
    · subst hi
      rw [if_pos rfl, gd_set (by omega), gd_set (by omega), if_pos rfl, if_pos rfl, e]; rfl
    · rw [if_neg hi]
      simp only [List.getD_eq_getElem?_getD, List.getElem?_set, if_neg (fun h => hi (Eq.symm h))]
theorem bf_fold_of {n : Nat} : ∀ (bs : List (Int × Int × Int)) {s : List Int × List Bool × Bool}, bf_ln n (s.1, s.2.1) → (∀ b ∈ bs, v_bok n b) →
    bf_ln n ((bs.foldl v_rx s).1, (bs.foldl v_rx s).2.1) ∧ bf_of ((bs.foldl v_rx s).1, (bs.foldl v_rx s).2.1) = (bs.map bf_b).foldl bf_rx (bf_of (s.1, s.2.1)) ∧ (bs.foldl v_rx s).2.2 = (s.2.2 || bf_vios (bs.map bf_b) (bf_of (s.1, s.2.1)))
  | [], s, h, _ => ⟨h, rfl, by simp [bf_vios]⟩
  | b :: bs, s, h, hb => by
    obtain ⟨e1, e2⟩ := bf_of_rx h (hb b (by simp))
    obtain ⟨i1, i2, i3⟩ := bf_fold_of bs (bf_ln_rx (b := b) h) (fun c hc => hb c (by simp [hc]))
    rw [List.foldl_cons, List.map_cons, List.foldl_cons]
    refine ⟨i1, by rw [i2, e1], ?_⟩
    rw [i3, e2, e1]
    unfold bf_vios
    rw [List.any_cons]
    cases hv : bf_vio (bf_of (s.1, s.2.1)) (bf_b b)
    · rw [bf_rx_no hv]; simp
    · simp
theorem bf_rds {n : Nat} {bs : List (Int × Int × Int)} {s : List Int × List Bool} (h : bf_ln n s) (hb : ∀ b ∈ bs, v_bok n b) : bf_ln n ((v_rds bs s).1, (v_rds bs s).2.1) ∧ bf_of ((v_rds bs s).1, (v_rds bs s).2.1) = bf_rd (bs.map bf_b) (bf_of s) ∧ (v_rds bs s).2.2 = bf_vios (bs.map bf_b) (bf_of s) := by
  have := bf_fold_of bs (s := (s.1, s.2, false)) h hb
  simpa [v_rds, bf_rd] using this
theorem bf_it_succ (B : List BFb) : ∀ (r : Nat) (σ : BFs), bf_it B (r + 1) σ = bf_it B r (bf_rd B σ)
  | 0, _ => rfl
  | r + 1, σ => by rw [bf_it, bf_it_succ B r σ]; rfl
theorem bf_it_no {B : List BFb} {σ : BFs} (h : bf_vios B σ = false) : ∀ r, bf_it B r σ = σ
  | 0 => rfl
  | r + 1 => by rw [bf_it, bf_it_no h r, bf_rd_no h]
theorem bf_lowr_is {n : Nat} {bs : List (Int × Int × Int)} (hb : ∀ b ∈ bs, v_bok n b) : ∀ (r : Nat) (s : List Int × List Bool), bf_ln n s → bf_vios (bs.map bf_b) (bf_it (bs.map bf_b) r (bf_of s)) = false →
    (v_lowr bs (r + 1) s).1 = true ∧ bf_ln n (v_lowr bs (r + 1) s).2 ∧ bf_of (v_lowr bs (r + 1) s).2 = bf_it (bs.map bf_b) r (bf_of s)
  | r, s, h, hv => by
    obtain ⟨h1, h2, h3⟩ := bf_rds h hb
    rw [v_lowr, h3]
    cases hc : bf_vios (bs.map bf_b) (bf_of s) with
    | false =>
      rw [bf_rd_no hc] at h2
      exact ⟨rfl, h1, by rw [bf_it_no hc]; exact h2⟩
    | true =>
      match r with
      | 0 => rw [show bf_it (bs.map bf_b) 0 (bf_of s) = bf_of s from rfl, hc] at hv; cases hv
      | r + 1 =>
        rw [bf_it_succ] at hv ⊢
        rw [← h2] at hv ⊢
        exact bf_lowr_is hb r _ h1 hv
theorem bf_lowr_inv {n : Nat} {bs : List (Int × Int × Int)} (hb : ∀ b ∈ bs, v_bok n b) {P : BFs → Prop} (hP : ∀ σ, P σ → ∀ b ∈ bs.map bf_b, P (bf_rx σ b)) : ∀ (r : Nat) (s : List Int × List Bool), bf_ln n s → P (bf_of s) →
    bf_ln n (v_lowr bs r s).2 ∧ P (bf_of (v_lowr bs r s).2) ∧ ((v_lowr bs r s).1 = true → bf_vios (bs.map bf_b) (bf_of (v_lowr bs r s).2) = false)
  | 0, s, h, hp => ⟨h, hp, fun h => by cases h⟩
  | r + 1, s, h, hp => by
    obtain ⟨h1, h2, h3⟩ := bf_rds h hb
    have hp' : P (bf_of ((v_rds bs s).1, (v_rds bs s).2.1)) := by
      rw [h2]; exact bf_fold hP _ (fun _ h => h) _ hp
    rw [v_lowr]
    cases hc : (v_rds bs s).2.2 with
    | false =>
      rw [hc] at h3
      refine ⟨h1, hp', fun _ => ?_⟩
      show bf_vios _ (bf_of ((v_rds bs s).1, (v_rds bs s).2.1)) = false
      rw [h2, bf_rd_no h3.symm]; exact h3.symm
    | true => exact bf_lowr_inv hb hP r _ h1 hp'

theorem v_lowr_bd {n : Nat} {bs : List (Int × Int × Int)} (hb : ∀ b ∈ bs, v_bok n b) : ∀ (r t : Nat) (s : List Int × List Bool), v_bd n t s.1 s.2 → v_bd n (t + bs.length * r) (v_lowr bs r s).2.1 (v_lowr bs r s).2.2
  | 0, t, s, h => h
  | r + 1, t, s, h => by
    have h1 := v_rds_bd h hb
    rw [v_lowr, show t + bs.length * (r + 1) = t + bs.length + bs.length * r by rw [Nat.mul_succ]; omega]
    cases (v_rds bs s).2.2
    · refine ⟨h1.vl, h1.kl, fun i => ?_⟩
      have := h1.small i
      have h0 : (0 : Int) ≤ ((bs.length * r : Nat) : Int) := Int.natCast_nonneg _
      simp only [cond_false]
      omega
    · exact v_lowr_bd hb r _ _ h1
theorem bf_known {n : Nat} {s : List Int × List Bool} (h : s.2 = List.replicate n true) : ∀ i, i < n → bf_of s i = some (s.1.getD i 0) := by
  intro i hi
  unfold bf_of
  rw [h, List.getD_eq_getElem?_getD, List.getElem?_replicate, if_pos hi]; rfl
theorem bf_zero {n i : Nat} : (List.replicate n (0 : Int)).getD i 0 = 0 := by
  rw [List.getD_eq_getElem?_getD, List.getElem?_replicate]; split <;> rfl
/-- The bounds of ties hold for values. -/
def v_fits (l : List (Int × Int × Int × Int)) (u : Nat → Int) : Prop := ∀ t ∈ l, t.2.2.1 ≤ u t.2.1.toNat - u t.1.toNat ∧ u t.2.1.toNat - u t.1.toNat ≤ t.2.2.2
theorem v_fits_feas : ∀ {l : List (Int × Int × Int × Int)} {u : Nat → Int}, v_fits l u ↔ bf_feas ((v_bnd l).map bf_b) u
  | [], u => by constructor <;> intro _ x hx <;> cases hx
  | t :: l, u => by
    have ih := v_fits_feas (l := l) (u := u)
    unfold v_fits bf_feas at *
    simp only [v_bnd, List.map_cons, List.forall_mem_cons, bf_b, ih]
    constructor
    · rintro ⟨⟨h1, h2⟩, h3⟩; exact ⟨by omega, by omega, h3⟩
    · rintro ⟨h1, h2, h3⟩; exact ⟨⟨by omega, by omega⟩, h3⟩
theorem bf_from {n : Nat} {l : List (Int × Int × Int × Int)} (hb : ∀ b ∈ v_bnd l, v_bok n b) : ∀ b ∈ (v_bnd l).map bf_b, b.2.1 < n ∧ b.1 < n := by
  intro b h
  obtain ⟨c, hc, rfl⟩ := List.mem_map.1 h
  obtain ⟨h1, h2, _⟩ := hb c hc
  unfold bf_b
  simp only
  omega
structure v_great (n : Nat) (l : List (Int × Int × Int × Int)) (v : List Int) : Prop where
  len : v.length = n
  fits : v_fits l fun i => v.getD i 0
  low : ∀ i, i < n → v.getD i 0 ≤ 0
  top : ∀ u : Nat → Int, v_fits l u → (∀ i, i < n → u i ≤ 0) → ∀ i, i < n → u i ≤ v.getD i 0
theorem v_all_inv {P : BFs → Prop} {n : Nat} {l : List (Int × Int × Int × Int)} {k : List Bool} (hk : k.length = n) (hb : ∀ b ∈ v_bnd l, v_bok n b) (hP : ∀ σ, P σ → ∀ b ∈ (v_bnd l).map bf_b, P (bf_rx σ b)) (h0 : P (bf_of (List.replicate n 0, k))) :
    bf_ln n (v_lowl l (List.replicate n 0) k).2 ∧ P (bf_of (v_lowl l (List.replicate n 0) k).2) ∧ ((v_lowl l (List.replicate n 0) k).1 = true → bf_vios ((v_bnd l).map bf_b) (bf_of (v_lowl l (List.replicate n 0) k).2) = false) := by
  unfold v_lowl
  exact bf_lowr_inv hb hP _ _ ⟨by simp, hk⟩ h0
theorem v_grt_great {n : Int} {l : List (Int × Int × Int × Int)} (h : v_nokI n l) (hg : (v_grt n l).2 = true) : v_great n.toNat l (v_grt n l).1 := by
  have hb := v_bnd_ok h.1.all
  have hfr := bf_from hb
  have inv := fun (P : BFs → Prop) => v_all_inv (P := P) (k := List.replicate n.toNat true) (by simp) hb
  have hg' : (v_lowl l (List.replicate n.toNat 0) (List.replicate n.toNat true)).1 = true := hg
  have init : ∀ i x, bf_of (List.replicate n.toNat (0 : Int), List.replicate n.toNat true) i = some x → x = 0 := by
    intro i x hx
    unfold bf_of at hx
    rw [bf_zero] at hx
    cases hk : (List.replicate n.toNat true).getD i false
    · simp only [hk] at hx; cases hx
    · simp only [hk, cond_true, Option.some.injEq] at hx; omega
  obtain ⟨g1, g2, g3⟩ := inv (fun σ => ∀ i, i < n.toNat → ∃ x, σ i = some x ∧ x ≤ 0) (fun σ hσ b _ i hi => by
    obtain ⟨x, hx, hx0⟩ := hσ i hi
    obtain ⟨z, hz, hz0⟩ := bf_mono (b := b) hx
    exact ⟨z, hz, by omega⟩) (fun i hi => ⟨0, by rw [bf_known rfl i hi, bf_zero], Int.le_refl _⟩)
  have g3 := g3 hg'
  have known : ∀ i, i < n.toNat → bf_of (v_lowl l (List.replicate n.toNat 0) (List.replicate n.toNat true)).2 i = some ((v_grt n l).1.getD i 0) := by
    intro i hi
    obtain ⟨x, hx, _⟩ := g2 i hi
    rw [hx]
    unfold bf_of at hx
    cases hk : (v_lowl l (List.replicate n.toNat 0) (List.replicate n.toNat true)).2.2.getD i false
    · rw [hk] at hx; cases hx
    · rw [hk] at hx; exact hx.symm
  refine ⟨g1.vl, v_fits_feas.2 fun b hbm => ?_, fun i hi => ?_, fun u hu hu0 i hi => ?_⟩
  · have hvio : bf_vio (bf_of (v_lowl l (List.replicate n.toNat 0) (List.replicate n.toNat true)).2) b = false := by
      cases hv : bf_vio (bf_of (v_lowl l (List.replicate n.toNat 0) (List.replicate n.toNat true)).2) b with
      | false => rfl
      | true => rw [show bf_vios _ _ = true from List.any_eq_true.2 ⟨b, hbm, hv⟩] at g3; cases g3
    obtain ⟨f1, f2⟩ := hfr b hbm
    obtain ⟨y, hy, hle⟩ := bf_ok hvio (known _ f1)
    rw [known _ f2] at hy
    cases hy
    exact hle
  · obtain ⟨x, hx, hx0⟩ := g2 i hi
    rw [known i hi] at hx
    cases hx
    exact hx0
  · obtain ⟨_, k2, _⟩ := inv (fun σ => ∀ i x, σ i = some x → (fun j => if j < n.toNat then u j else 0) i ≤ x) (fun σ hσ b hbm => bf_above (u := fun j => if j < n.toNat then u j else 0) (fun c hc => by
      obtain ⟨f1, f2⟩ := hfr c hc
      have := v_fits_feas.1 hu c hc
      simp only [if_pos f1, if_pos f2]; exact this) hσ hbm) (fun i x hx => by
        have := init i x hx
        subst this
        show (if i < n.toNat then u i else 0) ≤ 0
        split
        · rename_i hi; exact hu0 i hi
        · exact Int.le_refl _)
    have := k2 i _ (known i hi)
    simp only [if_pos hi] at this
    exact this
/-- The greatest values are not far below 0. -/
theorem v_great_small {n : Nat} {l : List (Int × Int × Int × Int)} {v : List Int} (hn : v_nok n l) (h : v_great n l v) : ∀ i, i < n → -(7000000 : Int) ≤ v.getD i 0 := by
  have hb := v_bnd_ok hn.all
  have hf := v_fits_feas.1 h.fits
  have n1 := hn.n1
  have n8 := hn.n8
  -- raised below a line
  have key : ∀ c : Int, c ≤ 0 → (∃ j, j < n ∧ v.getD j 0 < c) → ∃ i, i < n ∧ c - 1000000 ≤ v.getD i 0 ∧ v.getD i 0 < c := by
    intro c hc ⟨j, hj, hjc⟩
    apply Classical.byContradiction
    intro hno
    have hno : ∀ i, i < n → v.getD i 0 < c → v.getD i 0 < c - 1000000 := fun i hi hic => by
      apply Classical.byContradiction
      intro hh
      exact hno ⟨i, hi, by omega, hic⟩
    have := h.top (fun i => if v.getD i 0 < c then v.getD i 0 + 1 else v.getD i 0) (v_fits_feas.2 fun b hbm => by
      have h1 := hf b hbm
      obtain ⟨f1, f2⟩ := bf_from hb b hbm
      obtain ⟨d, hd, rfl⟩ := List.mem_map.1 hbm
      obtain ⟨_, _, d3⟩ := hb d hd
      have h2 := hno (bf_b d).1 f2
      unfold bf_b at *
      simp only at *
      split <;> split <;> omega) (fun i hi => by have := h.low i hi; show (if v.getD i 0 < c then v.getD i 0 + 1 else v.getD i 0) ≤ 0; split <;> omega) j hj
    simp only [if_pos hjc] at this
    omega
  have count : ∀ k : Nat, min n (k + 1) ≤ (List.range n).countP fun i => decide (-((k : Int) * 1000000) ≤ v.getD i 0) := by
    intro k
    induction k with
    | zero =>
      have : ∃ i, i < n ∧ 0 ≤ v.getD i 0 := by
        apply Classical.byContradiction
        intro hno
        have hno : ∀ i, i < n → v.getD i 0 < 0 := fun i hi => by
          apply Classical.byContradiction
          intro hh
          exact hno ⟨i, hi, by omega⟩
        have := h.top (fun i => v.getD i 0 + 1) (v_fits_feas.2 fun b hbm => by
          have : v.getD b.1 0 ≤ v.getD b.2.1 0 + b.2.2 := hf b hbm
          show v.getD b.1 0 + 1 ≤ v.getD b.2.1 0 + 1 + b.2.2
          omega) (fun i hi => by
          have := hno i hi
          show v.getD i 0 + 1 ≤ 0
          omega) 0 (by omega)
        have : v.getD 0 0 + 1 ≤ v.getD 0 0 := this
        omega
      obtain ⟨i, hi, h0⟩ := this
      have := bf_count_lt (p := fun _ => false) (q := fun i => decide (-(((0 : Nat) : Int) * 1000000) ≤ v.getD i 0)) hi (by simp) rfl (decide_eq_true (by omega))
      omega
    | succ k ih =>
      by_cases ha : ∃ j, j < n ∧ v.getD j 0 < -((k : Int) * 1000000)
      · obtain ⟨i, hi, i1, i2⟩ := key _ (by omega) ha
        have := bf_count_lt (p := fun i => decide (-((k : Int) * 1000000) ≤ v.getD i 0)) (q := fun i => decide (-(((k + 1 : Nat) : Int) * 1000000) ≤ v.getD i 0)) hi (fun i hh => decide_eq_true (by have := of_decide_eq_true hh; omega)) (decide_eq_false (by omega)) (decide_eq_true (by omega))
        omega
      · have hall : ∀ i ∈ List.range n, decide (-(((k + 1 : Nat) : Int) * 1000000) ≤ v.getD i 0) = true := fun i hi => by
          rw [List.mem_range] at hi
          refine decide_eq_true ?_
          apply Classical.byContradiction
          intro hh
          exact ha ⟨i, hi, by omega⟩
        rw [List.countP_eq_length.2 hall, List.length_range]; omega
  intro i hi
  have h7 := count 7
  have hle := List.countP_le_length (p := fun i => decide (-(((7 : Nat) : Int) * 1000000) ≤ v.getD i 0)) (l := List.range n)
  rw [List.length_range] at hle
  have heq : (List.range n).countP (fun i => decide (-(((7 : Nat) : Int) * 1000000) ≤ v.getD i 0)) = (List.range n).length := by rw [List.length_range]; omega
  have := of_decide_eq_true (List.countP_eq_length.1 heq i (List.mem_range.2 hi))
  omega
/-- How far one station may lie above another one, no fitting values do more. -/
theorem v_far_le {n : Int} {l : List (Int × Int × Int × Int)} (h : v_nokI n l) {a b : Int} (ha : 0 ≤ a ∧ a < n) (hb : 0 ≤ b ∧ b < n) {u : Nat → Int} (hu : v_fits l u) (hk : (v_far n l a b).2 = true) : u b.toNat - u a.toNat ≤ (v_far n l a b).1 := by
  have hbk := v_bnd_ok h.1.all
  obtain ⟨_, k2, _⟩ := v_all_inv (P := fun σ => ∀ i x, σ i = some x → u i - u a.toNat ≤ x) (k := (List.replicate n.toNat false).set a.toNat true) (by simp) hbk (fun σ hσ c hc => bf_above (u := fun i => u i - u a.toNat) (fun c hc => by
      have := v_fits_feas.1 hu c hc
      show u c.1 - u a.toNat ≤ u c.2.1 - u a.toNat + c.2.2
      omega) hσ hc) (fun i x hx => by
    unfold bf_of at hx
    rw [bf_zero] at hx
    cases hi : ((List.replicate n.toNat false).set a.toNat true).getD i false
    · simp only [hi] at hx; cases hx
    · simp only [hi, cond_true, Option.some.injEq] at hx
      have : i = a.toNat := by
        apply Classical.byContradiction
        intro hh
        rw [List.getD_eq_getElem?_getD, List.getElem?_set, if_neg (fun e => hh e.symm), List.getElem?_replicate] at hi
        split at hi <;> cases hi
      subst this; omega)
  refine k2 b.toNat _ ?_
  unfold bf_of
  have hk' : (v_lowl l (List.replicate n.toNat 0) ((List.replicate n.toNat false).set a.toNat true)).2.2.getD b.toNat false = true := hk
  rw [hk']; rfl
theorem v_far_small {n : Int} {l : List (Int × Int × Int × Int)} (h : v_nokI n l) (a b : Int) : -(300000000 : Int) ≤ (v_far n l a b).1 ∧ (v_far n l a b).1 ≤ 300000000 := by
  have hbk := v_bnd_ok h.1.all
  have h8 := h.1.n8
  have h12 := h.1.len
  have hl := v_bnd_len l
  have := (v_lowr_bd hbk (n.toNat + 1) 0 (List.replicate n.toNat (0 : Int), (List.replicate n.toNat false).set a.toNat true) ⟨by simp, by simp, fun i => by rw [bf_zero]; omega⟩).small b.toNat
  have e : (v_far n l a b).1 = (v_lowr (v_bnd l) (n.toNat + 1) (List.replicate n.toNat (0 : Int), (List.replicate n.toNat false).set a.toNat true)).2.1.getD b.toNat 0 := by unfold v_far v_lowl; rw [List.length_replicate]
  rw [e]
  have hm : (v_bnd l).length * (n.toNat + 1) ≤ 24 * 9 := Nat.mul_le_mul (by omega) (by omega)
  generalize (v_bnd l).length * (n.toNat + 1) = m at *
  omega
/-- Nothing contradicts itself without ties. -/
theorem v_grt_nil (n : Int) : (v_grt n []).2 = true := by unfold v_grt v_lowl; rw [v_lowr]; rfl
theorem v_pick_range (l : List (Int × Int × Int × Int)) : v_pick l ((List.range' 0 l.length).map fun (i : Nat) => (i : Int)) = l := by
  refine List.ext_getElem? fun i => ?_
  unfold v_pick
  rw [List.getElem?_map, List.getElem?_map]
  rcases Nat.lt_or_ge i l.length with h | h
  · rw [List.getElem?_range' h]
    simp [List.getD_eq_getElem?_getD, h]
  · rw [List.getElem?_eq_none (by simpa using h), List.getElem?_eq_none h]; rfl
/-- Numbers that ascend, from a on, below m. -/
def v_asc (m : Nat) : Nat → List Nat → Prop
  | _, [] => True
  | a, i :: r => a ≤ i ∧ i < m ∧ v_asc m (i + 1) r
def v_nats (r : List Nat) : List Int := r.map fun (i : Nat) => (i : Int)
theorem v_fst_none {f : Nat → List Int × Bool} : ∀ q, (v_fst f q).2 = false → ∀ i ∈ q, (f i).2 = false
  | [], _, i, hi => by cases hi
  | j :: q, h, i, hi => by
    unfold v_fst at h
    cases hj : (f j).2 with
    | true => rw [hj] at h; cases h
    | false =>
      rw [hj] at h
      rcases List.mem_cons.1 hi with rfl | hi
      · exact hj
      · exact v_fst_none q h i hi
theorem v_clash_none (n : Int) (l : List (Int × Int × Int × Int)) : ∀ (k : Nat) (set : List Int) (a : Nat), (v_clash n l k set a).2 = false → ∀ r : List Nat, v_asc l.length a r → r.length = k → (v_grt n (v_pick l (set ++ v_nats r))).2 = true
  | 0, set, a, h, r, _, hr => by
    have : r = [] := List.length_eq_zero_iff.1 hr
    subst this
    unfold v_clash at h
    simpa [v_nats] using h
  | k + 1, set, a, h, r, ha, hr => by
    match r, ha, hr with
    | i :: r, ⟨h1, h2, h3⟩, hr =>
      have := v_fst_none _ h i (List.mem_range'_1.2 ⟨h1, by omega⟩)
      have := v_clash_none n l k _ _ this r h3 (by simpa using hr)
      simpa [v_nats] using this
theorem v_clash_some (n : Int) (l : List (Int × Int × Int × Int)) : ∀ (k : Nat) (set : List Int) (a : Nat), (v_clash n l k set a).2 = true → ∃ r : List Nat, v_asc l.length a r ∧ r.length = k ∧ (v_clash n l k set a).1 = set ++ v_nats r ∧ (v_grt n (v_pick l (set ++ v_nats r))).2 = false
  | 0, set, a, h => ⟨[], trivial, rfl, by simp [v_clash, v_nats], by simpa [v_clash, v_nats] using h⟩
  | k + 1, set, a, h => by
    have key : ∀ q : List Nat, (∀ i ∈ q, a ≤ i ∧ i < l.length) → (v_fst (fun i => v_clash n l k (set ++ [(i : Int)]) (i + 1)) q).2 = true → ∃ r : List Nat, v_asc l.length a r ∧ r.length = k + 1 ∧ (v_fst (fun i => v_clash n l k (set ++ [(i : Int)]) (i + 1)) q).1 = set ++ v_nats r ∧ (v_grt n (v_pick l (set ++ v_nats r))).2 = false := by
      intro q
      induction q with
      | nil => intro _ h; cases h
      | cons i q ih =>
        intro hq hh
        unfold v_fst at hh ⊢
        cases hi : (v_clash n l k (set ++ [(i : Int)]) (i + 1)).2 with
        | false =>
          rw [hi] at hh
          exact ih (fun j hj => hq j (by simp [hj])) hh
        | true =>
          obtain ⟨r, r1, r2, r3, r4⟩ := v_clash_some n l k _ _ hi
          have := hq i (by simp)
          exact ⟨i :: r, ⟨this.1, this.2, r1⟩, by simp [r2], by simp only [cond_true, r3]; simp [v_nats], by simpa [v_nats] using r4⟩
    exact key _ (fun i hi => by have := List.mem_range'_1.1 hi; omega) h
theorem v_asc_erase (m : Nat) : ∀ (r : List Nat) (a j : Nat), v_asc m a r → v_asc m a (r.eraseIdx j)
  | [], _, _, _ => trivial
  | i :: r, a, 0, h => by
    have : ∀ (r : List Nat) (a b : Nat), a ≤ b → v_asc m b r → v_asc m a r := by
      intro r a b hab h
      match r, h with
      | [], _ => trivial
      | i :: r, ⟨h1, h2, h3⟩ => exact ⟨by omega, h2, h3⟩
    exact this r a (i + 1) (by have := h.1; omega) h.2.2
  | i :: r, a, j + 1, h => ⟨h.1, h.2.1, v_asc_erase m r (i + 1) j h.2.2⟩
theorem v_asc_range (m : Nat) : ∀ (c a : Nat), a + c ≤ m → v_asc m a (List.range' a c)
  | 0, _, _ => trivial
  | c + 1, a, h => by rw [List.range'_succ]; exact ⟨Nat.le_refl _, by omega, v_asc_range m c (a + 1) (by omega)⟩
theorem v_asc_mem {m : Nat} : ∀ {r : List Nat} {a : Nat}, v_asc m a r → ∀ i ∈ r, i < m
  | [], _, _, i, hi => by cases hi
  | j :: r, a, h, i, hi => by
    rcases List.mem_cons.1 hi with rfl | hi
    · exact h.2.1
    · exact v_asc_mem h.2.2 i hi
/-- The minimum set of ties that contradict each other: without any of them they do not. -/
theorem v_clof_is {p0 : Int × List (Int × Int × Int × Int)} (hn : (v_net p0).2 = 0) (hg : (v_grt p0.1 p0.2).2 = false) : ∃ r : List Nat, v_asc p0.2.length 0 r ∧ r ≠ [] ∧ r.length ≤ p0.2.length ∧ v_clof p0 = (v_nats r, 0) ∧ (v_grt p0.1 (v_pick p0.2 (v_nats r))).2 = false ∧ ∀ j, j < r.length → (v_grt p0.1 (v_pick p0.2 (v_nats (r.eraseIdx j)))).2 = true := by
  have key : ∀ (c j : Nat), j + c = p0.2.length + 1 → (∀ i, i < j → (v_clash p0.1 p0.2 i [] 0).2 = false) → ∃ r : List Nat, v_asc p0.2.length 0 r ∧ r ≠ [] ∧ r.length ≤ p0.2.length ∧ v_clsets p0 (List.range' j c) = (v_nats r, true) ∧ (v_grt p0.1 (v_pick p0.2 (v_nats r))).2 = false ∧ ∀ j, j < r.length → (v_grt p0.1 (v_pick p0.2 (v_nats (r.eraseIdx j)))).2 = true := by
    intro c
    induction c with
    | zero =>
      intro j hj hno
      exfalso
      have := v_clash_none p0.1 p0.2 p0.2.length [] 0 (hno p0.2.length (by omega)) (List.range' 0 p0.2.length) (v_asc_range _ _ _ (by omega)) (by simp)
      rw [List.nil_append, v_nats, v_pick_range, hg] at this
      cases this
    | succ c ih =>
      intro j hj hno
      rw [List.range'_succ]
      unfold v_clsets v_fst
      cases hc : (v_clash p0.1 p0.2 j [] 0).2 with
      | false => exact ih (j + 1) (by omega) (fun i hi => by
          rcases Nat.lt_or_ge i j with h | h
          · exact hno i h
          · have : i = j := by omega
            subst this; exact hc)
      | true =>
        obtain ⟨r, r1, r2, r3, r4⟩ := v_clash_some _ _ _ _ _ hc
        rw [List.nil_append] at r3 r4
        refine ⟨r, r1, ?_, by omega, by simp only [cond_true, r3], r4, fun i hi => ?_⟩
        · rintro rfl
          rw [show v_pick p0.2 (v_nats []) = [] from rfl, v_grt_nil] at r4
          cases r4
        · have hi' : 0 < r.length := by omega
          have := v_clash_none p0.1 p0.2 (j - 1) [] 0 (hno (j - 1) (by omega)) (r.eraseIdx i) (v_asc_erase _ _ _ _ r1) (by rw [List.length_eraseIdx_of_lt hi]; omega)
          rwa [List.nil_append] at this
  obtain ⟨r, r1, r2, r3, r4, r5⟩ := key (p0.2.length + 1) 0 (by omega) (fun i hi => absurd hi (Nat.not_lt_zero _))
  refine ⟨r, r1, r2, r3, ?_, r5⟩
  unfold v_clof v_clashes
  rw [r4, hn, hg]; rfl
/-- Values that are accepted fit. -/
theorem v_ckv_fits {p0 : Int × List (Int × Int × Int × Int)} {p1 : List Int} (h : (v_ckv p0 p1).2 = 0) : (p1.length : Int) = p0.1 ∧ (∀ x ∈ p1, -10000000 ≤ x ∧ x ≤ 10000000) ∧ v_fits p0.2 fun i => p1.getD i 0 := by
  unfold v_ckv at h
  cases he : (v_valerr p0 p1 != 0) with
  | true => rw [he] at h; simp only [cond_true] at h; rw [h] at he; cases he
  | false =>
    rw [he] at h
    obtain ⟨hn, hl⟩ := tx_valerr (bne0' he)
    cases hi : decide (v_idx_slices_IndexFuncint_int__gravity_CheckValues_1 p1 ≥ 0) with
    | true => rw [hi] at h; cases h
    | false =>
      rw [hi] at h
      have hany : p1.any s_gravity_CheckValues_1 = false := by
        rw [← v_scan_idx p1 0 (Int.le_refl _)]; exact hi
      have hx : ∀ x ∈ p1, -10000000 ≤ x ∧ x ≤ 10000000 := fun x hx => by
        have := List.any_eq_false.1 hany x hx
        unfold s_gravity_CheckValues_1 s_gravity_isSized at this
        rw [show IntKind.i64.wrap (0 - 10000000) = -10000000 from rfl] at this
        exact tx_within'.1 (by simpa using this)
      have hg : ∀ i, -10000000 ≤ p1.getD i 0 ∧ p1.getD i 0 ≤ 10000000 := fun i => by
        rcases Nat.lt_or_ge i p1.length with hi | hi
        · exact hx _ (getD_mem' 0 hi)
        · rw [List.getD_eq_getElem?_getD, List.getElem?_eq_none hi]; simp
      refine ⟨hl, hx, fun t ht => ?_⟩
      have := v_scan_end (P := fun (r : Int × Int) => r.2 = 0) p0.2 0 h (fun j x v _ hv => by
        cases hb : s_gravity_within (IntKind.i64.wrap (p1.getD x.2.1.toNat 0 - p1.getD x.1.toNat 0)) x.2.2.1 x.2.2.2 <;> rw [hb] at hv <;> simp at hv
        subst hv; simp)
      obtain ⟨k, hk, rfl⟩ := List.mem_iff_getElem.1 ht
      have := this k hk
      cases hb : s_gravity_within (IntKind.i64.wrap (p1.getD p0.2[k].2.1.toNat 0 - p1.getD p0.2[k].1.toNat 0)) p0.2[k].2.2.1 p0.2[k].2.2.2 with
      | false => rw [hb] at this; cases this
      | true =>
        have h1 := hg p0.2[k].2.1.toNat
        have h2 := hg p0.2[k].1.toNat
        rw [wrap_id (by omega) (by omega)] at hb
        exact tx_within'.1 hb
theorem v_fits_ckv {p0 : Int × List (Int × Int × Int × Int)} {p1 : List Int} (hn : (v_net p0).2 = 0) (hl : (p1.length : Int) = p0.1) (hx : ∀ x ∈ p1, -10000000 ≤ x ∧ x ≤ 10000000) (hf : v_fits p0.2 fun i => p1.getD i 0) : v_ckv p0 p1 = (0, 0) := by
  have hg : ∀ i, -10000000 ≤ p1.getD i 0 ∧ p1.getD i 0 ≤ 10000000 := fun i => by
    rcases Nat.lt_or_ge i p1.length with hi | hi
    · exact hx _ (getD_mem' 0 hi)
    · rw [List.getD_eq_getElem?_getD, List.getElem?_eq_none hi]; simp
  have e1 : v_valerr p0 p1 = 0 := by
    unfold v_valerr
    rw [hn, show ((p1.length : Int) == p0.1) = true by simpa using hl]; rfl
  have hany : p1.any s_gravity_CheckValues_1 = false := List.any_eq_false.2 fun x hm => by
    unfold s_gravity_CheckValues_1 s_gravity_isSized
    rw [show IntKind.i64.wrap (0 - 10000000) = -10000000 from rfl, tx_within'.2 (hx x hm)]; simp
  have e2 : decide (v_idx_slices_IndexFuncint_int__gravity_CheckValues_1 p1 ≥ 0) = false := by
    rw [← hany, ← v_scan_idx p1 0 (Int.le_refl _)]; rfl
  unfold v_ckv
  rw [e1, e2]
  show v_agree p0.2 p1 = (0, 0)
  refine v_scan_none _ _ fun j t ht => ?_
  have h1 := hg t.2.1.toNat
  have h2 := hg t.1.toNat
  rw [wrap_id (by omega) (by omega), tx_within'.2 (hf t ht)]; rfl

theorem tx_netok {p0 : Int × List (Int × Int × Int × Int)} (h : v_nokI p0.1 p0.2) : (v_net p0).2 = 0 := by
  obtain ⟨h, h0⟩ := h
  have n1 := h.n1
  have n8 := h.n8
  have h12 := h.len
  have e1 : v_neterr p0 = 0 := by
    unfold v_neterr
    rw [tx_within'.2 ⟨by omega, by omega⟩, decide_eq_true (show (p0.2.length : Int) ≤ 12 by omega)]; rfl
  unfold v_net
  rw [e1]
  simp only [show ((0 : Int) != 0) = false from rfl, cond_false]
  rw [v_scan_none _ _ fun i t ht => ?_]
  have ht := h.all t ht
  rw [Int.toNat_of_nonneg h0] at ht
  obtain ⟨t1, t2, t3, t4, t5, t6⟩ := ht
  have e2 : v_tierr p0.1 t = 0 := by
    unfold v_tierr
    rw [wrap_id (by omega) (by omega), tx_within'.2 ⟨by omega, by omega⟩, tx_within'.2 ⟨by omega, by omega⟩, show (t.1 != t.2.1) = true from bne_iff_ne.2 t3]
    have : s_gravity_rangeErr t.2.2 1000000 = 0 := by
      unfold s_gravity_rangeErr s_gravity_isSized
      rw [show IntKind.i64.wrap (0 - 1000000) = -1000000 from rfl, tx_within'.2 t4, tx_within'.2 t5, decide_eq_true t6]; rfl
    rw [this]; rfl
  rw [e2]; rfl
theorem tx_vals {n : Int} {l : List (Int × Int × Int × Int)} (h : v_nokI n l) : ((v_vals (n, l)).2 == 0) = (v_grt n l).2 := by
  unfold v_vals
  rw [tx_netok (p0 := (n, l)) h]
  simp only [show ((0 : Int) != 0) = false from rfl, cond_false]
  cases (v_grt n l).2 <;> rfl
theorem tx_pickok {n : Int} {l : List (Int × Int × Int × Int)} (h : v_nokI n l) {r : List Nat} (hr : r.length ≤ l.length) (hm : ∀ i ∈ r, i < l.length) : v_nokI n (v_pick l (v_nats r)) := by
  refine ⟨⟨h.1.n1, h.1.n8, by have := h.1.len; simp [v_pick, v_nats]; omega, fun t ht => ?_⟩, h.2⟩
  obtain ⟨i, hi, rfl⟩ := List.mem_map.1 ht
  obtain ⟨k, hk, rfl⟩ := List.mem_map.1 hi
  rw [Int.toNat_natCast]
  exact h.1.all _ (getD_mem' _ (hm k hk))
theorem nats_get (r : List Nat) (j : Nat) : (v_nats r).getD j 0 = ((r.getD j 0 : Nat) : Int) := by
  unfold v_nats
  simp only [List.getD_eq_getElem?_getD, List.getElem?_map]
  cases r[j]? <;> rfl
/-- The ties of a set but one. -/
theorem l_t0 (p0 : Int × List (Int × Int × Int × Int)) (p1 : List Int) (s : Int) (r : List Nat) (hN : v_nokI p0.1 p0.2) (hc : (v_clof p0).1 = v_nats r) (hr : r.length ≤ p0.2.length) (hm : ∀ i ∈ r, i < p0.2.length) (hs : -1 ≤ s ∧ s < r.length)
    (hv : ((v_vals (p0.1, v_pick p0.2 (v_nats (cond (decide (s ≥ 0)) (r.eraseIdx s.toNat) r)))).2 == 0) = decide (s ≥ 0)) :
    OkL (st_law05_GravityTied_0 p0 p1 s) (sp_law05_GravityTied_0 p0 p1 s) (0, p0.1, []) ∧ lpv (Sum.inr false) (st_law05_GravityTied_0 p0 p1 s) (0, p0.1, []) = Sum.inl (s + 1) := by
  have h12 := hN.1.len
  have hcopy : s_ref05_CopyNet p0 = p0 := by unfold s_ref05_CopyNet; simp
  have hlen : (v_nats r).length = r.length := by simp [v_nats]
  refine list_is (fun i (t : List (Int × Int × Int × Int)) => (i, p0.1, t)) r 0 (fun q t => q.length ≤ r.length ∧ t.length ≤ r.length - q.length ∧ (∀ i ∈ q, i < p0.2.length) ∧ t ++ v_pick p0.2 (v_nats (cond (decide (s ≥ (r.length - q.length : Int))) (q.eraseIdx (s - (r.length - q.length : Int)).toNat) q)) = v_pick p0.2 (v_nats (cond (decide (s ≥ 0)) (r.eraseIdx s.toNat) r))) (fun _ _ => Sum.inl (s + 1)) (lenOk_le (n := 12) (by omega) (by decide)) ?_ ?_ [] ⟨Nat.le_refl _, by simp, hm, by simp⟩
  · intro t ⟨_, _, _, ht⟩
    have hd : decide ((r.length : Int) < ((v_nats r).length : Nat)) = false := decide_eq_false (by omega)
    have ht : t = v_pick p0.2 (v_nats (cond (decide (s ≥ 0)) (r.eraseIdx s.toNat) r)) := by
      rw [← ht]
      simp only [List.length_nil, List.eraseIdx_nil]
      cases decide (s ≥ (r.length - ((0 : Nat) : Int))) <;> simp [v_nats, v_pick]
    refine ⟨by simp only [sp_law05_GravityTied_0, List.forall_mem_cons, hcopy, hc, hd]; simp, ?_⟩
    simp only [st_law05_GravityTied_0, hcopy, hc, hd, cond_false]
    rw [ht, hv, wrap_id (by omega) (by omega)]
    cases decide (s ≥ 0) <;> rfl
  · intro j t hj ⟨_, htl, hq, ht⟩
    have hd : decide ((j : Int) < ((v_nats r).length : Nat)) = true := decide_eq_true (by omega)
    have e1 : (r.getD j 0 :: r.drop (j + 1)).length = r.length - j := by simp; omega
    have e2 : (r.drop (j + 1)).length = r.length - (j + 1) := by simp
    have hj1 : (r.length : Int) - ((r.length - j : Nat) : Int) = j := by omega
    have hj2 : (r.length : Int) - ((r.length - (j + 1) : Nat) : Int) = j + 1 := by omega
    rw [e1] at htl ht
    rw [hj1] at ht
    have hx := hq (r.getD j 0) (by simp)
    have hw : s_base_Within ((r.getD j 0 : Nat) : Int) 0 (IntKind.i64.wrap ((p0.2.length : Int) - 1)) = true := by
      rw [wrap_id (by omega) (by omega)]
      exact tx_within'.2 ⟨by omega, by omega⟩
    refine ⟨?_, .inl ?_⟩
    · simp only [sp_law05_GravityTied_0, List.forall_mem_cons, hcopy, hc, Int.toNat_natCast, nats_get, hlen, List.length_cons, List.length_nil]
      and_intros
      all_goals first | (intros; omega) | (intro p hp; cases hp)
    · simp only [st_law05_GravityTied_0, hcopy, hc, hd, cond_true, Int.toNat_natCast, nats_get, hw, Bool.not_true, cond_false, wrap_nat (show (j : Int) ≤ 9223372036854775806 by omega)]
      by_cases hjs : (j : Int) = s
      · have hb : ((j : Int) != s) = false := by simp [hjs]
        rw [hb]
        refine ⟨t, rfl, ⟨by omega, by omega, fun i hi => hq i (by simp [hi]), ?_⟩, trivial⟩
        rw [e2, hj2, decide_eq_false (show ¬ s ≥ (j : Int) + 1 by omega), ← ht, decide_eq_true (show s ≥ (j : Int) by omega), show (s - (j : Int)).toNat = 0 by omega]; rfl
      · have hb : ((j : Int) != s) = true := bne_iff_ne.2 hjs
        rw [hb]
        refine ⟨t ++ [p0.2.getD (r.getD j 0) (0, 0, 0, 0)], rfl, ⟨by omega, by simp; omega, fun i hi => hq i (by simp [hi]), ?_⟩, trivial⟩
        rw [e2, hj2, ← ht]
        by_cases hsj : s ≥ (j : Int)
        · rw [decide_eq_true (show s ≥ (j : Int) + 1 by omega), decide_eq_true hsj]
          obtain ⟨m, hm'⟩ : ∃ m : Nat, (s - (j : Int)).toNat = m + 1 := ⟨(s - (j : Int)).toNat - 1, by omega⟩
          rw [hm', show (s - ((j : Int) + 1)).toNat = m by omega, List.append_assoc]; rfl
        · rw [decide_eq_false (show ¬ s ≥ (j : Int) + 1 by omega), decide_eq_false hsj, List.append_assoc]; rfl
theorem l_t1 (p0 : Int × List (Int × Int × Int × Int)) (p1 : List Int) (r : List Nat) (hN : v_nokI p0.1 p0.2) (hc : (v_clof p0).1 = v_nats r) (hr : r.length ≤ p0.2.length) (hm : ∀ i ∈ r, i < p0.2.length)
    (h1 : (v_grt p0.1 (v_pick p0.2 (v_nats r))).2 = false) (h2 : ∀ j, j < r.length → (v_grt p0.1 (v_pick p0.2 (v_nats (r.eraseIdx j)))).2 = true) :
    OkL (st_law05_GravityTied_1 p0 p1) (sp_law05_GravityTied_1 p0 p1) (-1) ∧ lpv false (st_law05_GravityTied_1 p0 p1) (-1) = true := by
  have h12 := hN.1.len
  have hcopy : s_ref05_CopyNet p0 = p0 := by unfold s_ref05_CopyNet; simp
  have hlen : (v_nats r).length = r.length := by simp [v_nats]
  have := for_is (dd := false) (st := st_law05_GravityTied_1 p0 p1) (sp := sp_law05_GravityTied_1 p0 p1) (fun i (_ : Unit) => i - 1) 0 (r.length + 1) (fun _ _ => True) (fun _ _ => true) (by omega) (by omega) ?_ ?_ () trivial
  · exact this
  · intro _ _
    have hd : decide (((r.length + 1 : Nat) : Int) - 1 < ((v_nats r).length : Nat)) = false := decide_eq_false (by omega)
    refine ⟨by simp only [sp_law05_GravityTied_1, List.forall_mem_cons, hcopy, hc, hd]; simp, ?_⟩
    simp only [st_law05_GravityTied_1, hcopy, hc, hd, cond_false]
  · intro j _ _ hj _
    have hd : decide ((j : Int) - 1 < ((v_nats r).length : Nat)) = true := decide_eq_true (by omega)
    obtain ⟨g1, g2⟩ := l_t0 p0 p1 ((j : Int) - 1) r hN hc hr hm (by omega) (by
      rw [tx_vals (tx_pickok hN (by
        cases decide ((j : Int) - 1 ≥ 0)
        · exact hr
        · exact Nat.le_trans (List.length_eraseIdx_le _ _) hr) (fun i hi => by
        cases hdj : decide ((j : Int) - 1 ≥ 0) <;> rw [hdj] at hi
        · exact hm i hi
        · exact hm i (List.mem_of_mem_eraseIdx hi)))]
      rcases Nat.eq_zero_or_pos j with h0 | h0
      · rw [decide_eq_false (by omega)]; exact h1
      · rw [decide_eq_true (by omega)]; exact h2 _ (by omega))
    refine ⟨by simp only [sp_law05_GravityTied_1, List.forall_mem_cons]; exact ⟨fun _ => g1, by simp⟩, .inl ⟨(), ?_, trivial, rfl⟩⟩
    simp only [st_law05_GravityTied_1, hcopy, hc, hd, cond_true]
    rw [g2]; simp
theorem tx_span {p0 : Int × List (Int × Int × Int × Int)} {p1 : List Int} (hn : (v_net p0).2 = 0) (hg : (v_grt p0.1 p0.2).2 = true) (hx : ∀ i, -10000000 ≤ p1.getD i 0 ∧ p1.getD i 0 ≤ 10000000) (hf : v_fits p0.2 fun i => p1.getD i 0) {i k : Nat} (hi : (i : Int) < p0.1) (hk : (k : Int) < p0.1) :
    ∃ s e, v_span p0 i k = (s, e) ∧ ((e = 0 ∧ s_base_Within (IntKind.i64.wrap (p1.getD k 0 - p1.getD i 0)) s.1 s.2 = true) ∨ e = 21) := by
  have hN := tx_net hn
  have n8 := hN.1.n8
  have e1 : v_spanerr p0 i k = 0 := by
    unfold v_spanerr s_gravity_SpanOf_1
    rw [hn, wrap_id (by omega) (by omega), tx_within'.2 ⟨by omega, by omega⟩, tx_within'.2 ⟨by omega, by omega⟩]; rfl
  refine ⟨(v_span p0 i k).1, (v_span p0 i k).2, rfl, ?_⟩
  unfold v_span
  rw [e1, hg]
  simp only [show ((0 : Int) != 0) = false from rfl, cond_false, Bool.not_true]
  cases h1 : (v_far p0.1 p0.2 i k).2
  · exact .inr rfl
  · cases h2 : (v_far p0.1 p0.2 k i).2
    · exact .inr rfl
    · refine .inl ⟨rfl, ?_⟩
      have f1 := v_far_le hN (a := i) (b := k) ⟨by omega, hi⟩ ⟨by omega, hk⟩ hf h1
      have f2 := v_far_le hN (a := k) (b := i) ⟨by omega, hk⟩ ⟨by omega, hi⟩ hf h2
      have g1 := v_far_small hN (k : Int) (i : Int)
      have x1 := hx i
      have x2 := hx k
      simp only [Int.toNat_natCast] at f1 f2
      simp only [Bool.not_true, cond_false]
      rw [wrap_id (by omega) (by omega), wrap_id (by omega) (by omega)]
      exact tx_within'.2 ⟨by omega, by omega⟩
theorem l_t2 (p0 : Int × List (Int × Int × Int × Int)) (p1 : List Int) (y12 : Int × Bool) (i : Nat) (hn : (v_net p0).2 = 0) (hg : (v_grt p0.1 p0.2).2 = true) (hl : (p1.length : Int) = p0.1) (hx : ∀ i, -10000000 ≤ p1.getD i 0 ∧ p1.getD i 0 ≤ 10000000) (hf : v_fits p0.2 fun i => p1.getD i 0) (hi : (i : Int) < p0.1) :
    OkL (st_law05_GravityTied_2 p0 p1 y12 i) (sp_law05_GravityTied_2 p0 p1 y12 i) 0 ∧ lpv (Sum.inr (Sum.inr false)) (st_law05_GravityTied_2 p0 p1 y12 i) 0 = Sum.inl (((i + 1 : Nat) : Int)) := by
  have hN := tx_net hn
  have n8 := hN.1.n8
  have h12 := hN.1.len
  have hcopy : s_ref05_CopyNet p0 = p0 := by unfold s_ref05_CopyNet; simp
  have := for_is (dd := (Sum.inr (Sum.inr false) : Int ⊕ ((Int × Bool) ⊕ Bool))) (st := st_law05_GravityTied_2 p0 p1 y12 i) (sp := sp_law05_GravityTied_2 p0 p1 y12 i) (fun k (_ : Unit) => k) 0 p0.1.toNat (fun _ _ => True) (fun _ _ => Sum.inl (((i + 1 : Nat) : Int))) (by omega) (by omega) ?_ ?_ () trivial
  · exact this
  · intro _ _
    have hd : decide ((p0.1.toNat : Int) < p0.1) = false := decide_eq_false (by omega)
    refine ⟨by simp only [sp_law05_GravityTied_2, List.forall_mem_cons, hd]; simp, ?_⟩
    simp only [st_law05_GravityTied_2, hd, cond_false, wrap_nat (show (i : Int) ≤ 9223372036854775806 by omega)]
  · intro k _ _ hk _
    have hd : decide ((k : Int) < p0.1) = true := decide_eq_true (by omega)
    obtain ⟨s, e, he, hse⟩ := tx_span hn hg hx hf hi (show (k : Int) < p0.1 by omega)
    have h0 : (([] : List (Int × Int × Int × Int)).length + p0.2.length) * 32 ≤ 140737488355328 := by simp; omega
    simp only [sp_law05_GravityTied_2, st_law05_GravityTied_2, hcopy, he, List.forall_mem_cons, hd, cond_true, Int.toNat_natCast, wrap_nat (show (k : Int) ≤ 9223372036854775806 by omega)]
    rcases hse with ⟨rfl, hw⟩ | rfl
    · rw [hw]
      refine ⟨?_, .inl ⟨(), rfl, trivial, trivial⟩⟩
      and_intros
      all_goals first | (intros; omega) | (simp; done) | (intro p hp; cases hp)
    · refine ⟨?_, .inl ⟨(), rfl, trivial, trivial⟩⟩
      and_intros
      all_goals first | (intros; omega) | (simp; done) | (intro p hp; cases hp)
theorem l_t3 (p0 : Int × List (Int × Int × Int × Int)) (p1 : List Int) (b : Bool) (hn : (v_net p0).2 = 0) (hg : (v_grt p0.1 p0.2).2 = true) (hl : (p1.length : Int) = p0.1) (hv : v_vals p0 = ((v_grt p0.1 p0.2).1, 0)) (hb : b = true → ∀ i : Nat, (i : Int) < p0.1 → p1.getD i 0 ≤ 0) :
    OkL (st_law05_GravityTied_3 p0 p1 (p0.1, b)) (sp_law05_GravityTied_3 p0 p1 (p0.1, b)) 0 ∧ lpv (Sum.inr false) (st_law05_GravityTied_3 p0 p1 (p0.1, b)) 0 = Sum.inr true := by
  have hN := tx_net hn
  have n8 := hN.1.n8
  have n0 := hN.2
  have hcopy : s_ref05_CopyNet p0 = p0 := by unfold s_ref05_CopyNet; simp
  have gr := v_grt_great hN hg
  have hvl : (((v_grt p0.1 p0.2).1.length : Nat) : Int) = p0.1 := by rw [gr.len]; omega
  have := for_is (dd := (Sum.inr false : (Int × Bool) ⊕ Bool)) (st := st_law05_GravityTied_3 p0 p1 (p0.1, b)) (sp := sp_law05_GravityTied_3 p0 p1 (p0.1, b)) (fun k (_ : Unit) => k) 0 p0.1.toNat (fun _ _ => True) (fun _ _ => Sum.inr true) (by omega) (by omega) ?_ ?_ () trivial
  · exact this
  · intro _ _
    have hd : decide ((p0.1.toNat : Int) < p0.1) = false := decide_eq_false (by omega)
    have hcc : ∀ c : Bool, cond c false false = false := fun c => by cases c <;> rfl
    refine ⟨by simp only [sp_law05_GravityTied_3, List.forall_mem_cons, hd, hcc]; simp, ?_⟩
    simp only [st_law05_GravityTied_3, hd, hcc, cond_false]
  · intro i _ _ hi _
    have hd : decide ((i : Int) < p0.1) = true := decide_eq_true (by omega)
    cases hk : ((v_ckv p0 p1).2 == 0)
    · refine ⟨by simp only [sp_law05_GravityTied_3, List.forall_mem_cons, hcopy, hk]; simp, .inr ?_⟩
      simp only [st_law05_GravityTied_3, hcopy, hk, cond_false]
    · obtain ⟨_, hx, hf⟩ := v_ckv_fits (show (v_ckv p0 p1).2 = 0 by simpa using hk)
      have hx' : ∀ i, -10000000 ≤ p1.getD i 0 ∧ p1.getD i 0 ≤ 10000000 := fun i => by
        rcases Nat.lt_or_ge i p1.length with hi | hi
        · exact hx _ (getD_mem' 0 hi)
        · rw [List.getD_eq_getElem?_getD, List.getElem?_eq_none hi]; simp
      obtain ⟨g1, g2⟩ := l_t2 p0 p1 (p0.1, b) i hn hg hl hx' hf (by omega)
      have hgt : cond b (decide (p1.getD i 0 > (v_grt p0.1 p0.2).1.getD i 0)) false = false := by
        cases b
        · rfl
        · have := gr.top (fun i => p1.getD i 0) hf (fun j hj => hb rfl j (by omega)) i (by omega)
          exact decide_eq_false (by omega)
      refine ⟨?_, .inl ⟨(), ?_, trivial, rfl⟩⟩
      · simp only [sp_law05_GravityTied_3, List.forall_mem_cons, hcopy, hv]
        refine ⟨fun _ _ => by omega, fun _ _ => by omega, fun _ _ => by omega, fun _ _ => g1, by simp⟩
      · simp only [st_law05_GravityTied_3, hcopy, hk, hd, cond_true, hv, Int.toNat_natCast, hgt, cond_false]
        rw [g2]
theorem l_t4 (p0 : Int × List (Int × Int × Int × Int)) (p1 : List Int) (hn : (v_net p0).2 = 0) (hg : (v_grt p0.1 p0.2).2 = true) (hl : (p1.length : Int) = p0.1) (hv : v_vals p0 = ((v_grt p0.1 p0.2).1, 0)) :
    OkL (st_law05_GravityTied_4 p0 p1) (sp_law05_GravityTied_4 p0 p1) (0, true) ∧ lpv false (st_law05_GravityTied_4 p0 p1) (0, true) = true := by
  have hN := tx_net hn
  have n8 := hN.1.n8
  have n0 := hN.2
  have hcopy : s_ref05_CopyNet p0 = p0 := by unfold s_ref05_CopyNet; simp
  have gr := v_grt_great hN hg
  have hvl : (((v_grt p0.1 p0.2).1.length : Nat) : Int) = p0.1 := by rw [gr.len]; omega
  have := for_is (dd := false) (st := st_law05_GravityTied_4 p0 p1) (sp := sp_law05_GravityTied_4 p0 p1) (fun k (b : Bool) => (k, b)) 0 p0.1.toNat (fun j b => b = true → ∀ i : Nat, i < j → p1.getD i 0 ≤ 0) (fun _ _ => true) (by omega) (by omega) ?_ ?_ true (fun _ i hi => absurd hi (Nat.not_lt_zero _))
  · exact this
  · intro b hb
    have hd : decide ((p0.1.toNat : Int) < p0.1) = false := decide_eq_false (by omega)
    obtain ⟨g1, g2⟩ := l_t3 p0 p1 b hn hg hl hv (fun h i hi => hb h i (by omega))
    have e : ((p0.1.toNat : Int), b) = (p0.1, b) := by rw [Int.toNat_of_nonneg n0]
    rw [e]
    have hd' : decide ((p0.1, b).1 < p0.1) = false := decide_eq_false (by simp)
    refine ⟨by simp only [sp_law05_GravityTied_4, List.forall_mem_cons, hd']; exact ⟨fun h => (by cases h), fun h => (by cases h), fun h => (by cases h), fun h => (by cases h), fun _ => g1, by simp⟩, ?_⟩
    simp only [st_law05_GravityTied_4, hd', cond_false]
    rw [g2]
  · intro i b _ hi hb
    have hd : decide ((i : Int) < p0.1) = true := decide_eq_true (by omega)
    have hlow := gr.low i (by omega)
    have hgt : decide ((v_grt p0.1 p0.2).1.getD i 0 > 0) = false := decide_eq_false (by omega)
    refine ⟨?_, .inl ⟨cond b (decide (p1.getD i 0 ≤ 0)) false, ?_, ?_, rfl⟩⟩
    · simp only [sp_law05_GravityTied_4, List.forall_mem_cons, hcopy, hv]
      exact ⟨fun _ => by omega, fun _ => by omega, fun _ _ _ => by omega, fun _ _ _ => by omega, fun h => (by rw [hd] at h; cases h), by simp⟩
    · simp only [st_law05_GravityTied_4, hcopy, hv, hd, cond_true, Int.toNat_natCast, hgt, cond_false, wrap_nat (show (i : Int) ≤ 9223372036854775806 by omega)]
    · intro h j hj
      cases b
      · cases h
      · have h' := of_decide_eq_true h
        rcases Nat.lt_or_ge j i with hji | hji
        · exact hb rfl j hji
        · have : j = i := by omega
          subst this; exact h'
/-- The plain law. -/
theorem plain_law05_GravityTied (p0 : Int × List (Int × Int × Int × Int)) (p1 : List Int) (_ : okPs P_law05_GravityTied (p0, p1)) : (∀ p ∈ pre_law05_GravityTied p0 p1, p) ∧ s_law05_GravityTied p0 p1 = true := by
  unfold pre_law05_GravityTied s_law05_GravityTied
  have hcopy : s_ref05_CopyNet p0 = p0 := by unfold s_ref05_CopyNet; simp
  rw [hcopy]
  cases hf : (cond (s_ref05_NetErr p0 != 0) true ((p1.length : Int) != p0.1))
  · have hn : (v_net p0).2 = 0 := by
      cases h1 : (s_ref05_NetErr p0 != 0) <;> rw [h1] at hf
      · exact bne0' h1
      · cases hf
    have hl : (p1.length : Int) = p0.1 := by
      cases h1 : (s_ref05_NetErr p0 != 0) <;> rw [h1] at hf
      · simpa using hf
      · cases hf
    have hN := tx_net hn
    have h12 := hN.1.len
    have n8 := hN.1.n8
    have h0 : (([] : List (Int × Int × Int × Int)).length + p0.2.length) * 32 ≤ 140737488355328 := by simp; omega
    have h1 : p1.length ≤ 1000000 := by omega
    cases hg : (v_grt p0.1 p0.2).2
    · have hv : v_vals p0 = ([], 13) := by unfold v_vals; rw [hn, hg]; rfl
      obtain ⟨r, r1, r2, r3, r4, r5, r6⟩ := v_clof_is hn hg
      have hc : (v_clof p0).1 = v_nats r := by rw [r4]
      obtain ⟨g1, g2⟩ := l_t1 p0 p1 r hN hc r3 (v_asc_mem r1) r5 r6
      have hlen : ((v_nats r).length : Int) = r.length := by simp [v_nats]
      have c1 : (((v_nats r).length : Int) == 0) = false := by
        rw [hlen]
        have : r.length ≠ 0 := fun e => r2 (List.length_eq_zero_iff.1 e)
        exact beq_eq_false_iff_ne.2 (by omega)
      have c2 : decide (((v_nats r).length : Int) > (p0.2.length : Int)) = false := decide_eq_false (by omega)
      rw [hv, r4]
      simp only [c1, c2, g2, List.forall_mem_cons]
      simp_all
    · have hv : v_vals p0 = ((v_grt p0.1 p0.2).1, 0) := by unfold v_vals; rw [hn, hg]; rfl
      have hcl : v_clof p0 = ([], 12) := by unfold v_clof; rw [hn, hg]; rfl
      have gr := v_grt_great hN hg
      have hvl : (((v_grt p0.1 p0.2).1.length : Nat) : Int) = p0.1 := by rw [gr.len]; have := hN.2; omega
      have sm := v_great_small hN.1 gr
      have hck : v_ckv p0 (v_grt p0.1 p0.2).1 = (0, 0) := v_fits_ckv hn hvl (fun x hx => by
        obtain ⟨k, hk, rfl⟩ := List.mem_iff_getElem.1 hx
        have h1 := gr.low k (by have := gr.len; omega)
        have h2 := sm k (by have := gr.len; omega)
        have e : (v_grt p0.1 p0.2).1.getD k 0 = (v_grt p0.1 p0.2).1[k] := by rw [List.getD_eq_getElem?_getD, List.getElem?_eq_getElem hk]; rfl
        rw [e] at h1 h2
        omega) gr.fits
      obtain ⟨g1, g2⟩ := l_t4 p0 p1 hn hg hl hv
      have h2 : (v_grt p0.1 p0.2).1.length ≤ 1000000 := by omega
      have c1 : (((v_grt p0.1 p0.2).1.length : Int) != p0.1) = false := by rw [hvl]; simp
      rw [hv, hcl]
      simp only [hck, c1, g2, List.forall_mem_cons]
      simp_all
  · simp only [List.forall_mem_cons]; simp


theorem own : ownKnob Tryd.prog.godebug = none := by kernel_rfl
theorem laidOut : laidOutB Tryd.prog = true := by kernel_rfl
theorem hfn14 : Tryd.prog.funcs[14]? = some (fnOf Tryd.prog 14) := by kernel_rfl
theorem hps14 : (fnOf Tryd.prog 14).params.size = 2 := by kernel_rfl
theorem globs (W : World) (h : laidMetH Tryd.prog Rows.gravityTiedRow.laid W) : Glob (fun b => b < W.heap.size) W := by
  intro g cs hg
  match g, hg with
  | 0, hg =>
    have e : [.int .i64 1, .int .i64 (-2), .int .i64 1] = cs := Option.some.inj hg
    subst e
    exact glob_ints (zs := [1, -2, 1]) (k := .i64) (t := 25) (e := 3) h (by kernel_rfl) (n := "cloverleaf/gravity.second") (.head _) (by kernel_rfl) (by kernel_rfl) (by kernel_rfl) (by kernel_rfl) (by kernel_rfl)
  | _ + 1, hg => cases hg
theorem lifted_GravityTied (os : Os) (started : os.Started) (H : Type) (enc : TypeId × Value → H) :
    ReturnsInHanded {} Tryd.checked os 14 .any (fun w args => (Rows.gravityTiedSpec.pre enc Tryd.prog (fnOf Tryd.prog 14) Rows.gravityTiedRow.domain false w args ∧ laidMetH Tryd.prog Rows.gravityTiedRow.laid w) ∧ sizedMet enc Tryd.prog (fnOf Tryd.prog 14) (OpenSpec.ofChange Rows.gravityTiedSpec) false w args)
      (Rows.gravityTiedSpec.post enc Tryd.prog (fnOf Tryd.prog 14) false true false false) :=
  said_of_laid (C := Tryd.checked) (laid := Rows.gravityTiedRow.laid) (ss := P_law05_GravityTied.map shP) (by kernel_rfl) own started (by kernel_rfl) hfn14
    (ChangeSpec.witness_shaped (enc := enc) (C := Tryd.checked) (os := os) (X := fun w _ => laidMetH Tryd.prog Rows.gravityTiedRow.laid w) false (World.laidAll Tryd.prog os Rows.gravityTiedRow.laid) (zeroArgs P_law05_GravityTied) 8 (World.laidAll_os _ _ _)
      (World.shaped_of_ZipB (by kernel_rfl) (by kernel_rfl)) (by kernel_rfl) (by kernel_rfl) (by kernel_rfl)
      (by rw [MakeChecks.laidMetH_plain _ _ _ (by kernel_rfl)]; exact laidMet_laidAll _ (by kernel_rfl) (by kernel_rfl))) rfl
    (fun ds h => by
      rw [hps14] at h
      match ds, h with
      | [_, _], _ => rfl)
    laidOut (by kernel_rfl) (rt := (fnOf Tryd.prog 14).resultTypes.getD 0 0) (by kernel_rfl) (by kernel_rfl) (by kernel_rfl)
    (law_of ok_law05_GravityTied fun x hx => ⟨(plain_law05_GravityTied x.1 x.2 hx).1, congrArg (fun b => V.p (.bool b)) (plain_law05_GravityTied x.1 x.2 hx).2⟩) globs
theorem GravityTied_holds : Rows.GravityTiedSaid :=
  OpenClaim.holds_of_wide 14 (fnOf Tryd.prog 14) rfl rfl rfl rfl rfl rfl rfl ⟨rfl, rfl, rfl, rfl, rfl⟩ rfl rfl rfl rfl rfl (by kernel_rfl) hfn14 (by kernel_rfl)
    (of_decide_eq_true (by kernel_rfl)) (by unfold Func.isWrapper; first | (rw [if_pos (by decide +kernel)]; kernel_rfl) | (rw [if_neg (by decide +kernel)]; exact ⟨rfl, rfl⟩))
    (fun os started H enc _ => lifted_GravityTied os started H enc)
theorem GravityTiedCard_holds : Rows.GravityTiedCardSaid :=
  Claim7.holds_tied_plain_at .later [] [.widerDeep] true (true, "7beca0c3d51d5b13018226e0a3ec850405335d46189a4e3e5247aa211c8b033a") false GravityTied_holds (fun _ h => by cases h) (by kernel_rfl) (fun _ h => by cases h) gravityTied_row_tie rfl ⟨rfl, rfl⟩ (by kernel_rfl) rfl
    (fun f fn hf hfn => by
      obtain rfl : f = 14 := Option.some.inj ((show Tryd.prog.funcNamed "cloverleaf/cloverleaflaw05.GravityTied" = some 14 by kernel_rfl).symm.trans hf) |>.symm
      obtain rfl : fn = fnOf Tryd.prog 14 := (Option.some.inj (hfn14.symm.trans hfn)).symm
      exact ⟨by kernel_rfl, fun j t ht => by
        have hm : t ∈ (fnOf Tryd.prog 14).params.toList := by simpa using Array.mem_of_getElem? ht
        have hall : ((fnOf Tryd.prog 14).params.toList.all fun u => !Tryd.prog.wantsStandIn u) = true := by kernel_rfl
        exact (show Tryd.prog.wantsStandIn t = false by simpa using List.all_eq_true.1 hall t hm)⟩)
    (by kernel_rfl)
end Go.Proofs.YtcecdmdnfmgnfaaDoor
