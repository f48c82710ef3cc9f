/- GravitySpans: the given statement is proved: at every input the law returns true, and the input reads as it did. No condition. -/
import Derived.Test.YtcecdmdnfmgnfaaDoorWalkGravitySpans
import Derived.Test.YtcecdmdnfmgnfaaDoorLayB
import Derived.Test.YtcecdmdnfmgnfaaDoorMxUl
import Derived.Test.YtcecdmdnfmgnfaaDoorRows
import Derived.Test.YtcecdmdnfmgnfaaDoorCards
import Derived.Test.YtcecdmdnfmgnfaaDoorTie
import Derived.ProofKit
import Derived.SevenTiedAt
namespace Go.Proofs.YtcecdmdnfmgnfaaDoor
open Go Go.Mx
set_option maxRecDepth 100000
/-! Bounds that are kept one after the other. -/
abbrev BFs := Nat → Option Int
abbrev BFb := Nat × Nat × Int
/-- A bound is violated. -/
def bf_vio (σ : BFs) (b : BFb) : Bool := match σ b.2.1, σ b.1 with
 | some x, some y => decide (x + b.2.2 < y)
 | some _, none => true
 | none, _ => false
def bf_rx (σ : BFs) (b : BFb) : BFs := match σ b.2.1 with
 | some x => fun i => cond (bf_vio σ b && decide (i = b.1)) (some (x + b.2.2)) (σ i)
 | none => σ
theorem bf_vio_some {σ : BFs} {b : BFb} (h : bf_vio σ b = true) : ∃ x, σ b.2.1 = some x ∧ (∀ y, σ b.1 = some y → x + b.2.2 < y) := by
 unfold bf_vio at h
 split at h
 ·rename_i x y hx hy
  exact ⟨x, hx, fun z hz => by rw [hy] at hz; cases hz; simpa using h⟩
 ·rename_i x hx hy
  exact ⟨x, hx, fun z hz => by rw [hy] at hz; cases hz⟩
 ·cases h
theorem bf_vio_of {σ : BFs} {b : BFb} {x : Int} (hx : σ b.2.1 = some x) (h : ∀ y, σ b.1 = some y → x + b.2.2 < y) : bf_vio σ b = true := by
 unfold bf_vio
 rw [hx]
 cases hy : σ b.1 with
 | none => rfl
 | some y => simpa using h y hy
theorem bf_ok {σ : BFs} {b : BFb} (h : bf_vio σ b = false) {x : Int} (hx : σ b.2.1 = some x) : ∃ y, σ b.1 = some y ∧ y ≤ x + b.2.2 := by
 unfold bf_vio at h
 rw [hx] at h
 cases hy : σ b.1 with
 | none => rw [hy] at h; cases h
 | some y => rw [hy] at h; exact ⟨y, rfl, by have := of_decide_eq_false h; omega⟩
theorem bf_ok_of {σ : BFs} {b : BFb} (h : ∀ x, σ b.2.1 = some x → ∃ y, σ b.1 = some y ∧ y ≤ x + b.2.2) : bf_vio σ b = false := by
 cases hv : bf_vio σ b with
 | false => rfl
 | true =>
  obtain ⟨x, hx, h1⟩ := bf_vio_some hv
  obtain ⟨y, hy, h2⟩ := h x hx
  have := h1 y hy
  omega
theorem bf_rx_no {σ : BFs} {b : BFb} (h : bf_vio σ b = false) : bf_rx σ b = σ := by
 unfold bf_rx
 rw [h]
 split
 ·funext i; rfl
 ·rfl
theorem bf_rx_yes {σ : BFs} {b : BFb} {x : Int} (h : bf_vio σ b = true) (hx : σ b.2.1 = some x) (i : Nat) : bf_rx σ b i = if i = b.1 then some (x + b.2.2) else σ i := by
 unfold bf_rx
 rw [hx, h]
 by_cases hi : i = b.1 <;> simp [hi]
def bf_feas (B : List BFb) (w : Nat → Int) : Prop := ∀ b ∈ B, w b.1 ≤ w b.2.1 + b.2.2
/-- Violated bounds start at m at least. -/
def bf_J (B : List BFb) (w : Nat → Int) (m : Int) (σ : BFs) : Prop := ∀ b ∈ B, bf_vio σ b = true → ∀ x, σ b.2.1 = some x → m ≤ x - w b.2.1
theorem bf_J_rx {B : List BFb} {w : Nat → Int} {m : Int} {σ : BFs} (hf : bf_feas B w) (h : bf_J B w m σ) {b : BFb} (hb : b ∈ B) : bf_J B w m (bf_rx σ b) := by
 cases hv : bf_vio σ b with
 | false => rw [bf_rx_no hv]; exact h
 | true =>
  obtain ⟨x, hx, h1⟩ := bf_vio_some hv
  have hm := h b hb hv x hx
  have hfb := hf b hb
  intro c hc hcv z hz
  rw [bf_rx_yes hv hx] at hz
  split at hz
  ·rename_i e
   cases hz
   rw [e]; omega
  ·rename_i e
   refine h c hc (bf_vio_of hz fun y hy => ?_) z hz
   obtain ⟨z', hz', h2⟩ := bf_vio_some hcv
   rw [bf_rx_yes hv hx, if_neg e, hz] at hz'
   cases hz'
   by_cases e2 : c.1 = b.1
   ·have h3 := h2 (x + b.2.2) (by rw [bf_rx_yes hv hx, if_pos e2])
    have h4 := h1 y (by rw [← e2]; exact hy)
    omega
   ·exact h2 y (by rw [bf_rx_yes hv hx, if_neg e2]; exact hy)
theorem bf_J_keep {B : List BFb} {w : Nat → Int} {m : Int} {σ : BFs} (hf : bf_feas B w) (h : bf_J B w m σ) {b : BFb} (hb : b ∈ B) {i : Nat} {x : Int} (hx : σ i = some x) (hm : x - w i ≤ m) : bf_rx σ b i = some x := by
 cases hv : bf_vio σ b with
 | false => rw [bf_rx_no hv]; exact hx
 | true =>
  obtain ⟨z, hz, h1⟩ := bf_vio_some hv
  rw [bf_rx_yes hv hz]
  split
  ·rename_i e
   subst e
   have h2 := h1 x hx
   have h3 := h b hb hv z hz
   have h4 := hf b hb
   omega
  ·exact hx
theorem bf_mono {σ : BFs} {b : BFb} {i : Nat} {y : Int} (hy : σ i = some y) : ∃ z, bf_rx σ b i = some z ∧ z ≤ y := by
 cases hv : bf_vio σ b with
 | false => rw [bf_rx_no hv]; exact ⟨y, hy, Int.le_refl _⟩
 | true =>
  obtain ⟨x, hx, h1⟩ := bf_vio_some hv
  rw [bf_rx_yes hv hx]
  split
  ·rename_i e
   subst e
   exact ⟨_, rfl, by have := h1 y hy; omega⟩
  ·exact ⟨y, hy, Int.le_refl _⟩
theorem bf_fold {P : BFs → Prop} {B : List BFb} (h : ∀ σ, P σ → ∀ b ∈ B, P (bf_rx σ b)) : ∀ (l : List BFb), (∀ b ∈ l, b ∈ B) → ∀ σ, P σ → P (l.foldl bf_rx σ)
 | [], _, σ, hp => hp
 | b :: l, hl, σ, hp => bf_fold h l (fun c hc => hl c (by simp [hc])) _ (h σ hp b (hl b (by simp)))
def bf_rd (B : List BFb) (σ : BFs) : BFs := B.foldl bf_rx σ
theorem bf_after {B : List BFb} {w : Nat → Int} {m : Int} {σ : BFs} (hf : bf_feas B w) (h : bf_J B w m σ) {b : BFb} (hb : b ∈ B) {x : Int} (hx : σ b.2.1 = some x) (hm : x - w b.2.1 ≤ m) : bf_vio (bf_rd B σ) b = false := by
 obtain ⟨l1, l2, e⟩ := List.append_of_mem hb
 have hl1 : ∀ c ∈ l1, c ∈ B := fun c hc => by rw [e]; simp [hc]
 have hl2 : ∀ c ∈ l2, c ∈ B := fun c hc => by rw [e]; simp [hc]
 have step : ∀ σ, (bf_J B w m σ ∧ σ b.2.1 = some x) → ∀ c ∈ B, (bf_J B w m (bf_rx σ c) ∧ bf_rx σ c b.2.1 = some x) := fun σ ⟨h1, h2⟩ c hc => ⟨bf_J_rx hf h1 hc, bf_J_keep hf h1 hc h2 hm⟩
 obtain ⟨g1, g2⟩ := bf_fold step l1 hl1 σ ⟨h, hx⟩
 generalize hs : l1.foldl bf_rx σ = s1 at g1 g2
 have g3 : ∃ y, bf_rx s1 b b.1 = some y ∧ y ≤ x + b.2.2 := by
  cases hv : bf_vio s1 b with
  | false => rw [bf_rx_no hv]; exact bf_ok hv g2
  | true => exact ⟨_, by rw [bf_rx_yes hv g2, if_pos rfl], Int.le_refl _⟩
 have step2 : ∀ σ, (bf_J B w m σ ∧ σ b.2.1 = some x ∧ ∃ y, σ b.1 = some y ∧ y ≤ x + b.2.2) → ∀ c ∈ B, (bf_J B w m (bf_rx σ c) ∧ bf_rx σ c b.2.1 = some x ∧ ∃ y, bf_rx σ c b.1 = some y ∧ y ≤ x + b.2.2) := fun σ ⟨h1, h2, y, h3, h4⟩ c hc => by
  obtain ⟨z, z1, z2⟩ := bf_mono (b := c) h3
  exact ⟨bf_J_rx hf h1 hc, bf_J_keep hf h1 hc h2 hm, z, z1, by omega⟩
 obtain ⟨k1, k2⟩ := step s1 ⟨g1, g2⟩ b hb
 obtain ⟨_, f2, f3⟩ := bf_fold step2 l2 hl2 (bf_rx s1 b) ⟨k1, k2, g3⟩
 refine bf_ok_of fun z hz => ?_
 unfold bf_rd at hz ⊢
 rw [e, List.foldl_append, List.foldl_cons, hs] at hz ⊢
 rw [f2] at hz
 cases hz
 exact f3
def bf_set (w : Nat → Int) (m : Int) (σ : BFs) (i : Nat) : Bool := match σ i with
 | some x => decide (x - w i ≤ m)
 | none => false
theorem bf_count {p q : Nat → Bool} : ∀ {n : Nat}, (∀ i, p i = true → q i = true) → (List.range n).countP p ≤ (List.range n).countP q
 | n, h => by
  induction n with
  | zero => simp
  | succ n ih =>
   rw [List.range_succ, List.countP_append, List.countP_append]
   have : List.countP p [n] ≤ List.countP q [n] := by
    rw [List.countP_singleton, List.countP_singleton]
    cases hp : p n with
    | false => simp
    | true => rw [h n hp]; simp
   omega
theorem bf_count_lt {p q : Nat → Bool} {n k : Nat} (hk : k < n) (h : ∀ i, p i = true → q i = true) (hp : p k = false) (hq : q k = true) : (List.range n).countP p < (List.range n).countP q := by
 induction n with
 | zero => omega
 | succ n ih =>
  rw [List.range_succ, List.countP_append, List.countP_append, List.countP_singleton, List.countP_singleton]
  rcases Nat.lt_or_ge k n with hk' | hk'
  ·have h1 := ih hk'
   cases hpn : p n with
   | false => simp; omega
   | true => rw [h n hpn]; simp; omega
  ·have : k = n := by omega
   subst this
   have := bf_count (n := k) h
   rw [hp, hq]; simp; omega
theorem bf_min {α : Type} (f : α → Int) : ∀ (l : List α), l ≠ [] → ∃ a ∈ l, ∀ b ∈ l, f a ≤ f b
 | [], h => (h rfl).elim
 | [a], _ => ⟨a, by simp, fun b hb => by simp at hb; subst hb; exact Int.le_refl _⟩
 | a :: c :: l, _ => by
  obtain ⟨x, hx, h⟩ := bf_min f (c :: l) (by simp)
  rcases Int.le_total (f a) (f x) with g | g
  ·refine ⟨a, by simp, fun b hb => ?_⟩
   rcases List.mem_cons.1 hb with rfl | hb
   ·exact Int.le_refl _
   ·exact Int.le_trans g (h b hb)
  ·refine ⟨x, by simp [List.mem_cons.1 hx], fun b hb => ?_⟩
   rcases List.mem_cons.1 hb with rfl | hb
   ·exact g
   ·exact h b hb
def bf_vios (B : List BFb) (σ : BFs) : Bool := B.any (bf_vio σ)
theorem bf_least {B : List BFb} {σ : BFs} (w : Nat → Int) (h : bf_vios B σ = true) : ∃ b ∈ B, ∃ x, bf_vio σ b = true ∧ σ b.2.1 = some x ∧ bf_J B w (x - w b.2.1) σ := by
 obtain ⟨b0, hb0, hv0⟩ := List.any_eq_true.1 h
 obtain ⟨b, hb, hmin⟩ := bf_min (fun b : BFb => (σ b.2.1).getD 0 - w b.2.1) (B.filter (bf_vio σ)) (List.ne_nil_of_mem (List.mem_filter.2 ⟨hb0, hv0⟩))
 obtain ⟨hb, hv⟩ := List.mem_filter.1 hb
 obtain ⟨x, hx, _⟩ := bf_vio_some hv
 refine ⟨b, hb, x, hv, hx, fun c hc hcv z hz => ?_⟩
 have := hmin c (List.mem_filter.2 ⟨hc, hcv⟩)
 simp only [hx, hz, Option.getD_some] at this
 exact this
def bf_it (B : List BFb) : Nat → BFs → BFs
 | 0, σ => σ
 | r + 1, σ => bf_rd B (bf_it B r σ)
theorem bf_rd_no {B : List BFb} {σ : BFs} (h : bf_vios B σ = false) : bf_rd B σ = σ := by
 have h' : ∀ b ∈ B, bf_vio σ b = false := fun b hb => by
  cases hv : bf_vio σ b with
  | false => rfl
  | true => rw [show bf_vios B σ = true from List.any_eq_true.2 ⟨b, hb, hv⟩] at h; cases h
 have : ∀ l : List BFb, (∀ b ∈ l, bf_vio σ b = false) → l.foldl bf_rx σ = σ := by
  intro l
  induction l with
  | nil => intro _; rfl
  | cons b l ih => intro hl; rw [List.foldl_cons, bf_rx_no (hl b (by simp))]; exact ih (fun c hc => hl c (by simp [hc]))
 exact this B h'
theorem bf_main {B : List BFb} {w : Nat → Int} (hf : bf_feas B w) {n : Nat} (hn : ∀ b ∈ B, b.2.1 < n) (σ : BFs) : ∀ r, bf_vios B (bf_it B r σ) = true → ∃ m, bf_J B w m (bf_it B r σ) ∧ r + 1 ≤ (List.range n).countP (bf_set w m (bf_it B r σ))
 | 0, h => by
  obtain ⟨b, hb, x, hv, hx, hJ⟩ := bf_least w h
  refine ⟨_, hJ, ?_⟩
  have := bf_count_lt (p := fun _ => false) (q := bf_set w (x - w b.2.1) (bf_it B 0 σ)) (hn b hb) (by simp) rfl (by unfold bf_set; rw [hx]; simp)
  omega
 | r + 1, h => by
  have h0 : bf_vios B (bf_it B r σ) = true := by
   cases hv : bf_vios B (bf_it B r σ) with
   | true => rfl
   | false => rw [bf_it, bf_rd_no hv, hv] at h; cases h
  obtain ⟨m, hJ, hc⟩ := bf_main hf hn σ r h0
  obtain ⟨b, hb, x, hv, hx, hJ'⟩ := bf_least w h
  have hJ2 : bf_J B w m (bf_it B (r + 1) σ) := bf_fold (P := bf_J B w m) (fun s hs c hc => bf_J_rx hf hs hc) B (fun _ h => h) _ hJ
  have hm := hJ2 b hb hv x hx
  refine ⟨_, hJ', ?_⟩
  have keep : ∀ i y, bf_it B r σ i = some y → y - w i ≤ m → bf_it B (r + 1) σ i = some y := fun i y hy hym =>
   (bf_fold (P := fun s => bf_J B w m s ∧ s i = some y) (fun s hs c hc => ⟨bf_J_rx hf hs.1 hc, bf_J_keep hf hs.1 hc hs.2 hym⟩) B (fun _ h => h) _ ⟨hJ, hy⟩).2
  have := bf_count_lt (p := bf_set w m (bf_it B r σ)) (q := bf_set w (x - w b.2.1) (bf_it B (r + 1) σ)) (hn b hb) ?_ ?_ ?_
  ·omega
  ·intro i hi
   unfold bf_set at hi ⊢
   cases hy : bf_it B r σ i with
   | none => rw [hy] at hi; cases hi
   | some y =>
    rw [hy] at hi
    have hi' := of_decide_eq_true hi
    rw [keep i y hy hi']
    exact decide_eq_true (by omega)
  ·cases hs : bf_set w m (bf_it B r σ) b.2.1 with
   | false => rfl
   | true =>
    exfalso
    unfold bf_set at hs
    cases hy : bf_it B r σ b.2.1 with
    | none => rw [hy] at hs; cases hs
    | some y =>
     rw [hy] at hs
     have := bf_after hf hJ hb hy (of_decide_eq_true hs)
     rw [show bf_rd B (bf_it B r σ) = bf_it B (r + 1) σ from rfl, hv] at this
     cases this
  ·unfold bf_set; rw [hx]; simp
/-- After n rounds all bounds of n stations hold, if there are values that fit. -/
theorem bf_done {B : List BFb} {w : Nat → Int} (hf : bf_feas B w) {n : Nat} (hn : ∀ b ∈ B, b.2.1 < n) (σ : BFs) : bf_vios B (bf_it B n σ) = false := by
 cases h : bf_vios B (bf_it B n σ) with
 | false => rfl
 | true =>
  obtain ⟨m, _, hc⟩ := bf_main hf hn σ n h
  have := List.countP_le_length (p := bf_set w m (bf_it B n σ)) (l := List.range n)
  rw [List.length_range] at this
  omega
/-- What fits is not passed. -/
theorem bf_above {B : List BFb} {u : Nat → Int} (hf : bf_feas B u) {σ : BFs} (h : ∀ i x, σ i = some x → u i ≤ x) {b : BFb} (hb : b ∈ B) : ∀ i x, bf_rx σ b i = some x → u i ≤ x := by
 intro i x hx
 cases hv : bf_vio σ b with
 | false => rw [bf_rx_no hv] at hx; exact h i x hx
 | true =>
  obtain ⟨z, hz, _⟩ := bf_vio_some hv
  rw [bf_rx_yes hv hz] at hx
  split at hx
  ·rename_i e
   cases hx
   have := h _ _ hz
   have := hf b hb
   rw [e]; omega
  ·exact h i x hx

/-! From lists to what is known of each station. -/
def bf_of (s : List Int × List Bool) : BFs := fun i => cond (s.2.getD i false) (some (s.1.getD i 0)) none
def bf_b (b : Int × Int × Int) : BFb := (b.1.toNat, b.2.1.toNat, b.2.2)
structure bf_ln (n : Nat) (s : List Int × List Bool) : Prop where
 vl : s.1.length = n
 kl : s.2.length = n
theorem bf_ln_rx {n : Nat} {s : List Int × List Bool × Bool} {b : Int × Int × Int} (h : bf_ln n (s.1, s.2.1)) : bf_ln n ((v_rx s b).1, (v_rx s b).2.1) := by
 unfold v_rx
 cases (s.2.1.getD b.2.1.toNat false && (!(s.2.1.getD b.1.toNat false) || decide (s.1.getD b.2.1.toNat 0 + b.2.2 < s.1.getD b.1.toNat 0)))
 ·exact h
 ·exact ⟨by simpa using h.vl, by simpa using h.kl⟩
theorem bf_cond {s : List Int × List Bool × Bool} {b : Int × Int × Int} : (s.2.1.getD b.2.1.toNat false && (!(s.2.1.getD b.1.toNat false) || decide (s.1.getD b.2.1.toNat 0 + b.2.2 < s.1.getD b.1.toNat 0))) = bf_vio (bf_of (s.1, s.2.1)) (bf_b b) := by
 unfold bf_vio bf_of bf_b
 simp only
 cases s.2.1.getD b.2.1.toNat false <;> cases s.2.1.getD b.1.toNat false <;> simp
theorem bf_of_rx {n : Nat} {s : List Int × List Bool × Bool} {b : Int × Int × Int} (h : bf_ln n (s.1, s.2.1)) (hb : v_bok n b) : bf_of ((v_rx s b).1, (v_rx s b).2.1) = bf_rx (bf_of (s.1, s.2.1)) (bf_b b) ∧ (v_rx s b).2.2 = (s.2.2 || bf_vio (bf_of (s.1, s.2.1)) (bf_b b)) := by
 obtain ⟨vl, kl⟩ := h
 obtain ⟨hb1, hb2, _⟩ := hb
 simp only at vl kl
 unfold v_rx
 rw [bf_cond]
 cases hv : bf_vio (bf_of (s.1, s.2.1)) (bf_b b)
 ·simp only [cond_false, Bool.or_false, and_true]
  exact (bf_rx_no hv).symm
 ·simp only [cond_true, Bool.or_true, and_true]
  obtain ⟨x, hx, _⟩ := bf_vio_some hv
  funext i
  rw [bf_rx_yes hv hx]
  unfold bf_of bf_b at *
  simp only at hx ⊢
  have e : s.1.getD b.2.1.toNat 0 = x := by
   cases hk : s.2.1.getD b.2.1.toNat false <;> rw [hk] at hx <;> simp at hx
   exact hx
  by_cases hi : i = b.1.toNat
  ·subst hi
   rw [if_pos rfl, gd_set (by omega), gd_set (by omega), if_pos rfl, if_pos rfl, e]; rfl
  ·rw [if_neg hi]
   simp only [List.getD_eq_getElem?_getD, List.getElem?_set, if_neg (fun h => hi (Eq.symm h))]
theorem bf_fold_of {n : Nat} : ∀ (bs : List (Int × Int × Int)) {s : List Int × List Bool × Bool}, bf_ln n (s.1, s.2.1) → (∀ b ∈ bs, v_bok n b) →
  bf_ln n ((bs.foldl v_rx s).1, (bs.foldl v_rx s).2.1) ∧ bf_of ((bs.foldl v_rx s).1, (bs.foldl v_rx s).2.1) = (bs.map bf_b).foldl bf_rx (bf_of (s.1, s.2.1)) ∧ (bs.foldl v_rx s).2.2 = (s.2.2 || bf_vios (bs.map bf_b) (bf_of (s.1, s.2.1)))
 | [], s, h, _ => ⟨h, rfl, by simp [bf_vios]⟩
 | b :: bs, s, h, hb => by
  obtain ⟨e1, e2⟩ := bf_of_rx h (hb b (by simp))
  obtain ⟨i1, i2, i3⟩ := bf_fold_of bs (bf_ln_rx (b := b) h) (fun c hc => hb c (by simp [hc]))
  rw [List.foldl_cons, List.map_cons, List.foldl_cons]
  refine ⟨i1, by rw [i2, e1], ?_⟩
  rw [i3, e2, e1]
  unfold bf_vios
  rw [List.any_cons]
  cases hv : bf_vio (bf_of (s.1, s.2.1)) (bf_b b)
  ·rw [bf_rx_no hv]; simp
  ·simp
theorem bf_rds {n : Nat} {bs : List (Int × Int × Int)} {s : List Int × List Bool} (h : bf_ln n s) (hb : ∀ b ∈ bs, v_bok n b) : bf_ln n ((v_rds bs s).1, (v_rds bs s).2.1) ∧ bf_of ((v_rds bs s).1, (v_rds bs s).2.1) = bf_rd (bs.map bf_b) (bf_of s) ∧ (v_rds bs s).2.2 = bf_vios (bs.map bf_b) (bf_of s) := by
 have := bf_fold_of bs (s := (s.1, s.2, false)) h hb
 simpa [v_rds, bf_rd] using this
theorem bf_it_succ (B : List BFb) : ∀ (r : Nat) (σ : BFs), bf_it B (r + 1) σ = bf_it B r (bf_rd B σ)
 | 0, _ => rfl
 | r + 1, σ => by rw [bf_it, bf_it_succ B r σ]; rfl
theorem bf_it_no {B : List BFb} {σ : BFs} (h : bf_vios B σ = false) : ∀ r, bf_it B r σ = σ
 | 0 => rfl
 | r + 1 => by rw [bf_it, bf_it_no h r, bf_rd_no h]
theorem bf_lowr_is {n : Nat} {bs : List (Int × Int × Int)} (hb : ∀ b ∈ bs, v_bok n b) : ∀ (r : Nat) (s : List Int × List Bool), bf_ln n s → bf_vios (bs.map bf_b) (bf_it (bs.map bf_b) r (bf_of s)) = false →
  (v_lowr bs (r + 1) s).1 = true ∧ bf_ln n (v_lowr bs (r + 1) s).2 ∧ bf_of (v_lowr bs (r + 1) s).2 = bf_it (bs.map bf_b) r (bf_of s)
 | r, s, h, hv => by
  obtain ⟨h1, h2, h3⟩ := bf_rds h hb
  rw [v_lowr, h3]
  cases hc : bf_vios (bs.map bf_b) (bf_of s) with
  | false =>
   rw [bf_rd_no hc] at h2
   exact ⟨rfl, h1, by rw [bf_it_no hc]; exact h2⟩
  | true =>
   match r with
   | 0 => rw [show bf_it (bs.map bf_b) 0 (bf_of s) = bf_of s from rfl, hc] at hv; cases hv
   | r + 1 =>
    rw [bf_it_succ] at hv ⊢
    rw [← h2] at hv ⊢
    exact bf_lowr_is hb r _ h1 hv
theorem bf_lowr_inv {n : Nat} {bs : List (Int × Int × Int)} (hb : ∀ b ∈ bs, v_bok n b) {P : BFs → Prop} (hP : ∀ σ, P σ → ∀ b ∈ bs.map bf_b, P (bf_rx σ b)) : ∀ (r : Nat) (s : List Int × List Bool), bf_ln n s → P (bf_of s) →
  bf_ln n (v_lowr bs r s).2 ∧ P (bf_of (v_lowr bs r s).2) ∧ ((v_lowr bs r s).1 = true → bf_vios (bs.map bf_b) (bf_of (v_lowr bs r s).2) = false)
 | 0, s, h, hp => ⟨h, hp, fun h => by cases h⟩
 | r + 1, s, h, hp => by
  obtain ⟨h1, h2, h3⟩ := bf_rds h hb
  have hp' : P (bf_of ((v_rds bs s).1, (v_rds bs s).2.1)) := by
   rw [h2]; exact bf_fold hP _ (fun _ h => h) _ hp
  rw [v_lowr]
  cases hc : (v_rds bs s).2.2 with
  | false =>
   rw [hc] at h3
   refine ⟨h1, hp', fun _ => ?_⟩
   show bf_vios _ (bf_of ((v_rds bs s).1, (v_rds bs s).2.1)) = false
   rw [h2, bf_rd_no h3.symm]; exact h3.symm
  | true => exact bf_lowr_inv hb hP r _ h1 hp'

theorem bf_known {n : Nat} {s : List Int × List Bool} (h : s.2 = List.replicate n true) : ∀ i, i < n → bf_of s i = some (s.1.getD i 0) := by
 intro i hi
 unfold bf_of
 rw [h, List.getD_eq_getElem?_getD, List.getElem?_replicate, if_pos hi]; rfl
theorem bf_zero {n i : Nat} : (List.replicate n (0 : Int)).getD i 0 = 0 := by
 rw [List.getD_eq_getElem?_getD, List.getElem?_replicate]; split <;> rfl
/-- The bounds of ties hold for values. -/
def v_fits (l : List (Int × Int × Int × Int)) (u : Nat → Int) : Prop := ∀ t ∈ l, t.2.2.1 ≤ u t.2.1.toNat - u t.1.toNat ∧ u t.2.1.toNat - u t.1.toNat ≤ t.2.2.2
theorem v_fits_feas : ∀ {l : List (Int × Int × Int × Int)} {u : Nat → Int}, v_fits l u ↔ bf_feas ((v_bnd l).map bf_b) u
 | [], u => by constructor <;> intro _ x hx <;> cases hx
 | t :: l, u => by
  have ih := v_fits_feas (l := l) (u := u)
  unfold v_fits bf_feas at *
  simp only [v_bnd, List.map_cons, List.forall_mem_cons, bf_b, ih]
  constructor
  ·rintro ⟨⟨h1, h2⟩, h3⟩; exact ⟨by omega, by omega, h3⟩
  ·rintro ⟨h1, h2, h3⟩; exact ⟨⟨by omega, by omega⟩, h3⟩
theorem bf_from {n : Nat} {l : List (Int × Int × Int × Int)} (hb : ∀ b ∈ v_bnd l, v_bok n b) : ∀ b ∈ (v_bnd l).map bf_b, b.2.1 < n ∧ b.1 < n := by
 intro b h
 obtain ⟨c, hc, rfl⟩ := List.mem_map.1 h
 obtain ⟨h1, h2, _⟩ := hb c hc
 unfold bf_b
 simp only
 omega
structure v_great (n : Nat) (l : List (Int × Int × Int × Int)) (v : List Int) : Prop where
 len : v.length = n
 fits : v_fits l fun i => v.getD i 0
 low : ∀ i, i < n → v.getD i 0 ≤ 0
 top : ∀ u : Nat → Int, v_fits l u → (∀ i, i < n → u i ≤ 0) → ∀ i, i < n → u i ≤ v.getD i 0
theorem v_all_inv {P : BFs → Prop} {n : Nat} {l : List (Int × Int × Int × Int)} {k : List Bool} (hk : k.length = n) (hb : ∀ b ∈ v_bnd l, v_bok n b) (hP : ∀ σ, P σ → ∀ b ∈ (v_bnd l).map bf_b, P (bf_rx σ b)) (h0 : P (bf_of (List.replicate n 0, k))) :
  bf_ln n (v_lowl l (List.replicate n 0) k).2 ∧ P (bf_of (v_lowl l (List.replicate n 0) k).2) ∧ ((v_lowl l (List.replicate n 0) k).1 = true → bf_vios ((v_bnd l).map bf_b) (bf_of (v_lowl l (List.replicate n 0) k).2) = false) := by
 unfold v_lowl
 exact bf_lowr_inv hb hP _ _ ⟨by simp, hk⟩ h0
theorem v_grt_great {n : Int} {l : List (Int × Int × Int × Int)} (h : v_nokI n l) (hg : (v_grt n l).2 = true) : v_great n.toNat l (v_grt n l).1 := by
 have hb := v_bnd_ok h.1.all
 have hfr := bf_from hb
 have inv := fun (P : BFs → Prop) => v_all_inv (P := P) (k := List.replicate n.toNat true) (by simp) hb
 have hg' : (v_lowl l (List.replicate n.toNat 0) (List.replicate n.toNat true)).1 = true := hg
 have init : ∀ i x, bf_of (List.replicate n.toNat (0 : Int), List.replicate n.toNat true) i = some x → x = 0 := by
  intro i x hx
  unfold bf_of at hx
  rw [bf_zero] at hx
  cases hk : (List.replicate n.toNat true).getD i false
  ·simp only [hk] at hx; cases hx
  ·simp only [hk, cond_true, Option.some.injEq] at hx; omega
 obtain ⟨g1, g2, g3⟩ := inv (fun σ => ∀ i, i < n.toNat → ∃ x, σ i = some x ∧ x ≤ 0) (fun σ hσ b _ i hi => by
  obtain ⟨x, hx, hx0⟩ := hσ i hi
  obtain ⟨z, hz, hz0⟩ := bf_mono (b := b) hx
  exact ⟨z, hz, by omega⟩) (fun i hi => ⟨0, by rw [bf_known rfl i hi, bf_zero], Int.le_refl _⟩)
 have g3 := g3 hg'
 have known : ∀ i, i < n.toNat → bf_of (v_lowl l (List.replicate n.toNat 0) (List.replicate n.toNat true)).2 i = some ((v_grt n l).1.getD i 0) := by
  intro i hi
  obtain ⟨x, hx, _⟩ := g2 i hi
  rw [hx]
  unfold bf_of at hx
  cases hk : (v_lowl l (List.replicate n.toNat 0) (List.replicate n.toNat true)).2.2.getD i false
  ·rw [hk] at hx; cases hx
  ·rw [hk] at hx; exact hx.symm
 refine ⟨g1.vl, v_fits_feas.2 fun b hbm => ?_, fun i hi => ?_, fun u hu hu0 i hi => ?_⟩
 ·have hvio : bf_vio (bf_of (v_lowl l (List.replicate n.toNat 0) (List.replicate n.toNat true)).2) b = false := by
   cases hv : bf_vio (bf_of (v_lowl l (List.replicate n.toNat 0) (List.replicate n.toNat true)).2) b with
   | false => rfl
   | true => rw [show bf_vios _ _ = true from List.any_eq_true.2 ⟨b, hbm, hv⟩] at g3; cases g3
  obtain ⟨f1, f2⟩ := hfr b hbm
  obtain ⟨y, hy, hle⟩ := bf_ok hvio (known _ f1)
  rw [known _ f2] at hy
  cases hy
  exact hle
 ·obtain ⟨x, hx, hx0⟩ := g2 i hi
  rw [known i hi] at hx
  cases hx
  exact hx0
 ·obtain ⟨_, k2, _⟩ := inv (fun σ => ∀ i x, σ i = some x → (fun j => if j < n.toNat then u j else 0) i ≤ x) (fun σ hσ b hbm => bf_above (u := fun j => if j < n.toNat then u j else 0) (fun c hc => by
   obtain ⟨f1, f2⟩ := hfr c hc
   have := v_fits_feas.1 hu c hc
   simp only [if_pos f1, if_pos f2]; exact this) hσ hbm) (fun i x hx => by
    have := init i x hx
    subst this
    show (if i < n.toNat then u i else 0) ≤ 0
    split
    ·rename_i hi; exact hu0 i hi
    ·exact Int.le_refl _)
  have := k2 i _ (known i hi)
  simp only [if_pos hi] at this
  exact this
/-- Nothing contradicts itself without ties. -/
theorem v_grt_nil (n : Int) : (v_grt n []).2 = true := by unfold v_grt v_lowl; rw [v_lowr]; rfl
/-- Numbers that ascend, from a on, below m. -/
def v_asc (m : Nat) : Nat → List Nat → Prop
 | _, [] => True
 | a, i :: r => a ≤ i ∧ i < m ∧ v_asc m (i + 1) r
def v_nats (r : List Nat) : List Int := r.map fun (i : Nat) => (i : Int)
theorem v_clash_some (n : Int) (l : List (Int × Int × Int × Int)) : ∀ (k : Nat) (set : List Int) (a : Nat), (v_clash n l k set a).2 = true → ∃ r : List Nat, v_asc l.length a r ∧ r.length = k ∧ (v_clash n l k set a).1 = set ++ v_nats r ∧ (v_grt n (v_pick l (set ++ v_nats r))).2 = false
 | 0, set, a, h => ⟨[], trivial, rfl, by simp [v_clash, v_nats], by simpa [v_clash, v_nats] using h⟩
 | k + 1, set, a, h => by
  have key : ∀ q : List Nat, (∀ i ∈ q, a ≤ i ∧ i < l.length) → (v_fst (fun i => v_clash n l k (set ++ [(i : Int)]) (i + 1)) q).2 = true → ∃ r : List Nat, v_asc l.length a r ∧ r.length = k + 1 ∧ (v_fst (fun i => v_clash n l k (set ++ [(i : Int)]) (i + 1)) q).1 = set ++ v_nats r ∧ (v_grt n (v_pick l (set ++ v_nats r))).2 = false := by
   intro q
   induction q with
   | nil => intro _ h; cases h
   | cons i q ih =>
    intro hq hh
    unfold v_fst at hh ⊢
    cases hi : (v_clash n l k (set ++ [(i : Int)]) (i + 1)).2 with
    | false =>
     rw [hi] at hh
     exact ih (fun j hj => hq j (by simp [hj])) hh
    | true =>
     obtain ⟨r, r1, r2, r3, r4⟩ := v_clash_some n l k _ _ hi
     have := hq i (by simp)
     exact ⟨i :: r, ⟨this.1, this.2, r1⟩, by simp [r2], by simp only [cond_true, r3]; simp [v_nats], by simpa [v_nats] using r4⟩
  exact key _ (fun i hi => by have := List.mem_range'_1.1 hi; omega) h
theorem v_asc_mem {m : Nat} : ∀ {r : List Nat} {a : Nat}, v_asc m a r → ∀ i ∈ r, i < m
 | [], _, _, i, hi => by cases hi
 | j :: r, a, h, i, hi => by
  rcases List.mem_cons.1 hi with rfl | hi
  ·exact h.2.1
  ·exact v_asc_mem h.2.2 i hi

theorem bf_turns {n : Nat} {bs : List (Int × Int × Int)} (hb : ∀ b ∈ bs, v_bok n b) : ∀ (r : Nat) (s : List Int × List Bool), bf_ln n s → bf_ln n (v_turns bs r s) ∧ bf_of (v_turns bs r s) = bf_it (bs.map bf_b) r (bf_of s)
 | 0, s, h => ⟨h, rfl⟩
 | r + 1, s, h => by
  have h1 := bf_fold_of bs (s := (s.1, s.2, false)) h hb
  rw [v_stp_fold bs s.1 s.2 false] at h1
  obtain ⟨i1, i2⟩ := bf_turns hb r _ h1.1
  refine ⟨i1, ?_⟩
  rw [bf_it_succ]
  have e : bf_rd (bs.map bf_b) (bf_of s) = bf_of (bs.foldl v_stp s) := h1.2.1.symm
  rw [e]
  exact i2
theorem v_mok_turns {n : Nat} {bs : List (Int × Int × Int)} (hb : ∀ b ∈ bs, v_bok n b) : ∀ (r : Nat) {t : Nat} {s : List Int × List Bool}, v_mok n t s → ∃ t', v_mok n t' (v_turns bs r s)
 | 0, t, _, h => ⟨t, h⟩
 | r + 1, _, _, h => v_mok_turns hb r (v_mok_fold bs h hb)
theorem v_far_mst {n : Int} {l : List (Int × Int × Int × Int)} (h : v_nokI n l) (hg : (v_grt n l).2 = true) {a b : Int} (ha : 0 ≤ a ∧ a < n) (hb : 0 ≤ b ∧ b < n) : (v_far n l a b).2 = (v_mst n l a b).2 ∧ ((v_far n l a b).2 = true → (v_far n l a b).1 = (v_mst n l a b).1) := by
 have hbk := v_bnd_ok h.1.all
 have n8 := h.1.n8
 have gr := v_grt_great h hg
 have hf := v_fits_feas.1 gr.fits
 have hln : bf_ln n.toNat (List.replicate n.toNat (0 : Int), (List.replicate n.toNat false).set a.toNat true) := ⟨by simp, by simp⟩
 have hdone := bf_done hf (n := n.toNat) (fun c hc => (bf_from hbk c hc).1) (bf_of (List.replicate n.toNat (0 : Int), (List.replicate n.toNat false).set a.toNat true))
 obtain ⟨_, _, e1⟩ := bf_lowr_is hbk n.toNat _ hln hdone
 obtain ⟨_, e2⟩ := bf_turns hbk n.toNat _ hln
 rw [← e2] at e1
 obtain ⟨t', hm⟩ := v_mok_turns hbk n.toNat (v_mok_init (n := n.toNat) (a := a.toNat) (by omega))
 have eb := congrFun e1 b.toNat
 have hbn : b.toNat < n.toNat := by omega
 unfold v_far v_mst v_lowl
 rw [List.length_replicate, v_code_get hbn]
 generalize hF : (v_lowr (v_bnd l) (n.toNat + 1) (List.replicate n.toNat (0 : Int), (List.replicate n.toNat false).set a.toNat true)).2 = F at *
 generalize hT : v_turns (v_bnd l) n.toNat (List.replicate n.toNat (0 : Int), (List.replicate n.toNat false).set a.toNat true) = T at *
 have hu := hm.up b.toNat hbn
 have cl := v_cnt_le n.toNat T
 unfold bf_of at eb
 cases k1 : F.2.getD b.toNat false <;> cases k2 : T.2.getD b.toNat false <;> rw [k1, k2] at eb <;> simp only [cond_true, cond_false, reduceCtorEq, Option.some.injEq] at eb
 ·exact ⟨rfl, fun h => by cases h⟩
 ·have := hu k2
  exact ⟨(decide_eq_true (show T.1.getD b.toNat 0 < 50000000 by omega)).symm, fun _ => eb⟩
/-- What agrees, agrees in part. -/
theorem v_grt_part {n : Int} {l : List (Int × Int × Int × Int)} (h : v_nokI n l) (hg : (v_grt n l).2 = true) {r : List Nat} (ha : v_asc l.length 0 r) (hr : r.length ≤ l.length) : (v_grt n (v_pick l (v_nats r))).2 = true := by
 have gr := v_grt_great h hg
 have hp : v_nokI n (v_pick l (v_nats r)) := by
  refine ⟨⟨h.1.n1, h.1.n8, by have := h.1.len; simp [v_pick, v_nats]; omega, fun t ht => ?_⟩, h.2⟩
  obtain ⟨i, hi, rfl⟩ := List.mem_map.1 ht
  obtain ⟨k, hk, rfl⟩ := List.mem_map.1 hi
  rw [Int.toNat_natCast]
  exact h.1.all _ (getD_mem' _ (v_asc_mem ha k hk))
 have hbk := v_bnd_ok hp.1.all
 have hf : v_fits (v_pick l (v_nats r)) fun i => (v_grt n l).1.getD i 0 := fun t ht => by
  obtain ⟨i, hi, rfl⟩ := List.mem_map.1 ht
  obtain ⟨k, hk, rfl⟩ := List.mem_map.1 hi
  rw [Int.toNat_natCast]
  exact gr.fits _ (getD_mem' _ (v_asc_mem ha k hk))
 have hln : bf_ln n.toNat (List.replicate n.toNat (0 : Int), List.replicate n.toNat true) := ⟨by simp, by simp⟩
 have := (bf_lowr_is hbk n.toNat _ hln (bf_done (v_fits_feas.1 hf) (n := n.toNat) (fun c hc => (bf_from hbk c hc).1) _)).1
 unfold v_grt v_lowl
 rw [List.length_replicate]
 exact this
theorem v_clof_spec {p0 : Int × List (Int × Int × Int × Int)} (hn : (v_net p0).2 = 0) (hN : v_nokI p0.1 p0.2) : v_clof p0 = v_clans (v_clash1 p0) := by
 unfold v_clof
 rw [hn]
 show cond (v_grt p0.1 p0.2).2 ([], 12) (v_clans (v_clashes p0)) = _
 cases hg : (v_grt p0.1 p0.2).2 with
 | false =>
  have : v_clashes p0 = v_clash1 p0 := by
   unfold v_clashes v_clash1
   rw [List.range'_succ]
   unfold v_clsets
   rw [show ∀ (f : Nat → List Int × Bool) (i : Nat) (q : List Nat), v_fst f (i :: q) = cond (f i).2 ((f i).1, true) (v_fst f q) from fun _ _ _ => rfl]
   rw [show (v_clash p0.1 p0.2 0 [] 0).2 = false by unfold v_clash; rw [show v_pick p0.2 [] = [] from rfl, v_grt_nil]; rfl]; rfl
  rw [this]; rfl
 | true =>
  have : (v_clash1 p0).2 = false := by
   cases hc : (v_clash1 p0).2 with
   | false => rfl
   | true =>
    have key : ∀ q : List Nat, (∀ i ∈ q, i ≤ p0.2.length) → (v_clsets p0 q).2 = true → False := by
     intro q
     induction q with
     | nil => intro _ h; cases h
     | cons i q ih =>
      intro hq hh
      unfold v_clsets at hh ih
      rw [show ∀ (f : Nat → List Int × Bool) (i : Nat) (q : List Nat), v_fst f (i :: q) = cond (f i).2 ((f i).1, true) (v_fst f q) from fun _ _ _ => rfl] at hh
      cases hi : (v_clash p0.1 p0.2 i [] 0).2 with
      | false => rw [hi] at hh; exact ih (fun j hj => hq j (by simp [hj])) hh
      | true =>
       obtain ⟨r, r1, r2, _, r4⟩ := v_clash_some _ _ _ _ _ hi
       rw [List.nil_append, v_grt_part hN hg r1 (by have := hq i (by simp); omega)] at r4
       cases r4
    exact (key _ (fun i hi => by have := List.mem_range'_1.1 hi; omega) hc).elim
  unfold v_clans
  rw [this]; rfl
theorem v_span_spec {p0 : Int × List (Int × Int × Int × Int)} (hn : (v_net p0).2 = 0) (hN : v_nokI p0.1 p0.2) {p1 p2 : Int} (h1 : 0 ≤ p1 ∧ p1 < p0.1) (h2 : 0 ≤ p2 ∧ p2 < p0.1) : v_span p0 p1 p2 = v_rspan p0 p1 p2 := by
 have n8 := hN.1.n8
 have e1 : v_spanerr p0 p1 p2 = 0 := by
  unfold v_spanerr s_gravity_SpanOf_1
  rw [hn, wrap_id (by omega) (by omega), tx_within'.2 ⟨by omega, by omega⟩, tx_within'.2 ⟨by omega, by omega⟩]; rfl
 unfold v_span v_rspan
 rw [e1]
 simp only [show ((0 : Int) != 0) = false from rfl, cond_false]
 cases hg : (v_grt p0.1 p0.2).2 with
 | false => rfl
 | true =>
  simp only [Bool.not_true, cond_false]
  obtain ⟨a1, a2⟩ := v_far_mst hN hg h1 h2
  obtain ⟨b1, b2⟩ := v_far_mst hN hg h2 h1
  rw [← a1, ← b1]
  cases k1 : (v_far p0.1 p0.2 p1 p2).2 with
  | false => rfl
  | true =>
   cases k2 : (v_far p0.1 p0.2 p2 p1).2 with
   | false => rfl
   | true => rw [a2 k1, b2 k2]
theorem l_spans (p0 : Int × List (Int × Int × Int × Int)) (p1 p2 : Int) : (∃ e, e ≠ 0 ∧ s_ref05_NetErr p0 = e ∧ v_span p0 p1 p2 = ((0, 0), e) ∧ v_clof p0 = ([], e)) ∨
  (s_ref05_NetErr p0 = 0 ∧ v_nokI p0.1 p0.2 ∧ v_clof p0 = v_clans (v_clash1 p0) ∧ ((cond (s_ref05_StationErr p0 p1 != 0) true (s_ref05_StationErr p0 p2 != 0) = true ∧ v_span p0 p1 p2 = ((0, 0), 6)) ∨ (cond (s_ref05_StationErr p0 p1 != 0) true (s_ref05_StationErr p0 p2 != 0) = false ∧ (0 ≤ p1 ∧ p1 < p0.1) ∧ (0 ≤ p2 ∧ p2 < p0.1) ∧ v_span p0 p1 p2 = v_rspan p0 p1 p2))) := by
 rcases int0 (v_net p0).2 with ⟨b1, b2, _⟩ | ⟨b1, b2, _⟩
 ·have hN := tx_net b1
  have n8 := hN.1.n8
  have n0 := hN.2
  refine .inr ⟨b1, hN, v_clof_spec b1 hN, ?_⟩
  have hS : ∀ p, s_ref05_StationErr p0 p = cond (!(s_gravity_within p 0 (p0.1 - 1))) 6 0 := fun p => by
   unfold s_ref05_StationErr
   rw [wrap_id (by omega) (by omega)]; rfl
  have hE : v_spanerr p0 p1 p2 = v_first (0 :: s_gravity_unless (cond (s_gravity_within p1 0 (p0.1 - 1)) (s_gravity_within p2 0 (p0.1 - 1)) false) 6 :: []) := by
   unfold v_spanerr s_gravity_SpanOf_1
   rw [b1, wrap_id (by omega) (by omega)]
  rw [hS, hS]
  cases w1 : s_gravity_within p1 0 (p0.1 - 1) with
  | false =>
   refine .inl ⟨rfl, ?_⟩
   unfold v_span
   rw [hE, w1]; rfl
  | true =>
   cases w2 : s_gravity_within p2 0 (p0.1 - 1) with
   | false =>
    refine .inl ⟨rfl, ?_⟩
    unfold v_span
    rw [hE, w1, w2]; rfl
   | true =>
    have g1 := tx_within'.1 w1
    have g2 := tx_within'.1 w2
    exact .inr ⟨rfl, ⟨by omega, by omega⟩, ⟨by omega, by omega⟩, v_span_spec b1 hN ⟨by omega, by omega⟩ ⟨by omega, by omega⟩⟩
 ·refine .inl ⟨(v_net p0).2, b1, rfl, ?_, ?_⟩
  ·have e : v_spanerr p0 p1 p2 = (v_net p0).2 := by
    unfold v_spanerr; simp only [v_first]; rw [b2]; rfl
   unfold v_span; rw [e, b2]; rfl
  ·unfold v_clof; rw [b2]; rfl
theorem v_clash1_len (p0 : Int × List (Int × Int × Int × Int)) (h : p0.2.length ≤ 12) : lenOk (v_clans (v_clash1 p0)).1 := by
 have key : ∀ q : List Nat, (∀ i ∈ q, i ≤ p0.2.length) → (v_clsets p0 q).2 = true → (v_clsets p0 q).1.length ≤ p0.2.length := by
  intro q
  induction q with
  | nil => intro _ h; cases h
  | cons i q ih =>
   intro hq hh
   unfold v_clsets at hh ih ⊢
   rw [show ∀ (f : Nat → List Int × Bool) (i : Nat) (q : List Nat), v_fst f (i :: q) = cond (f i).2 ((f i).1, true) (v_fst f q) from fun _ _ _ => rfl] at hh ⊢
   cases hi : (v_clash p0.1 p0.2 i [] 0).2 with
   | false => rw [hi] at hh; exact ih (fun j hj => hq j (by simp [hj])) hh
   | true =>
    have := v_clash_len _ _ _ _ _ hi
    simp only [cond_true, this]
    have := hq i (by simp)
    simp; omega
 unfold v_clans
 cases hc : (v_clash1 p0).2 with
 | false => exact lenOk_le (n := 12) (by simp) (by decide)
 | true => exact lenOk_le (n := 12) (Nat.le_trans (key _ (fun i hi => by have := List.mem_range'_1.1 hi; omega) hc) h) (by decide)
/-- The plain law. -/
theorem plain_law05_GravitySpans (p0 : Int × List (Int × Int × Int × Int)) (p1 p2 : Int) (_ : okPs P_law05_GravitySpans (p0, p1, p2)) : (∀ p ∈ pre_law05_GravitySpans p0 p1 p2, p) ∧ s_law05_GravitySpans p0 p1 p2 = true := by
 unfold pre_law05_GravitySpans s_law05_GravitySpans
 have hcopy : s_ref05_CopyNet p0 = p0 := by unfold s_ref05_CopyNet; simp
 rw [hcopy]
 cases hf : (!(s_law05_fewTies p0))
 ·have hl : p0.2.length ≤ 14 := by
   unfold s_law05_fewTies at hf
   cases h1 : decide ((p0.2.length : Int) ≤ 14) <;> rw [h1] at hf
   ·cases hf
   ·have h2 := of_decide_eq_true h1; omega
  have h1 : (([] : List (Int × Int × Int × Int)).length + p0.2.length) * 32 ≤ 140737488355328 := by simp; omega
  rcases l_spans p0 p1 p2 with ⟨e, g0, g1, g2, g3⟩ | ⟨g1, g2, g3, ⟨g4, g5⟩ | ⟨g4, g5, g6, g7⟩⟩
  ·rw [g1, g2, g3]
   simp only [List.forall_mem_cons]
   simp_all
  ·have hlen := v_clash1_len p0 g2.1.len
   rw [g1, g3, g5, g4]
   clear g4
   generalize v_clash1 p0 = C at *
   obtain ⟨c1, c2⟩ := C
   simp only [List.forall_mem_cons, v_clans] at hlen ⊢
   cases c2 <;> simp_all
  ·have hlen := v_clash1_len p0 g2.1.len
   rw [g1, g3, g7, g4]
   clear g4
   generalize v_clash1 p0 = C at *
   generalize v_rspan p0 p1 p2 = D at *
   obtain ⟨c1, c2⟩ := C
   simp only [List.forall_mem_cons, v_clans] at hlen ⊢
   cases c2 <;> simp_all
 ·simp only [List.forall_mem_cons]; simp


theorem own : ownKnob Tryd.prog.godebug = none := by kernel_rfl
theorem laidOut : laidOutB Tryd.prog = true := by kernel_rfl
theorem hfn13 : Tryd.prog.funcs[13]? = some (fnOf Tryd.prog 13) := by kernel_rfl
theorem hps13 : (fnOf Tryd.prog 13).params.size = 3 := by kernel_rfl
theorem globs (W : World) (h : laidMetH Tryd.prog Rows.gravitySpansRow.laid W) : Glob (fun b => b < W.heap.size) W := by
 intro g cs hg
 match g, hg with
 | 0, hg =>
  have e : [.int .i64 1, .int .i64 (-2), .int .i64 1] = cs := Option.some.inj hg
  subst e
  exact glob_ints (zs := [1, -2, 1]) (k := .i64) (t := 25) (e := 3) h (by kernel_rfl) (n := "cloverleaf/gravity.second") (.head _) (by kernel_rfl) (by kernel_rfl) (by kernel_rfl) (by kernel_rfl) (by kernel_rfl)
 | _ + 1, hg => cases hg
theorem lifted_GravitySpans (os : Os) (started : os.Started) (H : Type) (enc : TypeId × Value → H) :
  ReturnsInHanded {} Tryd.checked os 13 .any (fun w args => (Rows.gravitySpansSpec.pre enc Tryd.prog (fnOf Tryd.prog 13) Rows.gravitySpansRow.domain false w args ∧ laidMetH Tryd.prog Rows.gravitySpansRow.laid w) ∧ sizedMet enc Tryd.prog (fnOf Tryd.prog 13) (OpenSpec.ofChange Rows.gravitySpansSpec) false w args)
   (Rows.gravitySpansSpec.post enc Tryd.prog (fnOf Tryd.prog 13) false true false false) :=
 said_of_laid (C := Tryd.checked) (laid := Rows.gravitySpansRow.laid) (ss := P_law05_GravitySpans.map shP) (by kernel_rfl) own started (by kernel_rfl) hfn13
  (ChangeSpec.witness_shaped (enc := enc) (C := Tryd.checked) (os := os) (X := fun w _ => laidMetH Tryd.prog Rows.gravitySpansRow.laid w) false (World.laidAll Tryd.prog os Rows.gravitySpansRow.laid) (zeroArgs P_law05_GravitySpans) 8 (World.laidAll_os _ _ _)
   (World.shaped_of_ZipB (by kernel_rfl) (by kernel_rfl)) (by kernel_rfl) (by kernel_rfl) (by kernel_rfl)
   (by rw [MakeChecks.laidMetH_plain _ _ _ (by kernel_rfl)]; exact laidMet_laidAll _ (by kernel_rfl) (by kernel_rfl))) rfl
  (fun ds h => by
   rw [hps13] at h
   match ds, h with
   | [_, _, _], _ => rfl)
  laidOut (by kernel_rfl) (rt := (fnOf Tryd.prog 13).resultTypes.getD 0 0) (by kernel_rfl) (by kernel_rfl) (by kernel_rfl)
  (law_of ok_law05_GravitySpans fun x hx => ⟨(plain_law05_GravitySpans x.1 x.2.1 x.2.2 hx).1, congrArg (fun b => V.p (.bool b)) (plain_law05_GravitySpans x.1 x.2.1 x.2.2 hx).2⟩) globs
theorem GravitySpans_holds : Rows.GravitySpansSaid :=
 OpenClaim.holds_of_wide 13 (fnOf Tryd.prog 13) rfl rfl rfl rfl rfl rfl rfl ⟨rfl, rfl, rfl, rfl, rfl⟩ rfl rfl rfl rfl rfl (by kernel_rfl) hfn13 (by kernel_rfl)
  (of_decide_eq_true (by kernel_rfl)) (by unfold Func.isWrapper; first | (rw [if_pos (by decide +kernel)]; kernel_rfl) | (rw [if_neg (by decide +kernel)]; exact ⟨rfl, rfl⟩))
  (fun os started H enc _ => lifted_GravitySpans os started H enc)
theorem GravitySpansCard_holds : Rows.GravitySpansCardSaid :=
 Claim7.holds_tied_plain_at .later [] [.widerDeep] true (true, "7beca0c3d51d5b13018226e0a3ec850405335d46189a4e3e5247aa211c8b033a") false GravitySpans_holds (fun _ h => by cases h) (by kernel_rfl) (fun _ h => by cases h) gravitySpans_row_tie rfl ⟨rfl, rfl⟩ (by kernel_rfl) rfl
  (fun f fn hf hfn => by
   obtain rfl : f = 13 := Option.some.inj ((show Tryd.prog.funcNamed "cloverleaf/cloverleaflaw05.GravitySpans" = some 13 by kernel_rfl).symm.trans hf) |>.symm
   obtain rfl : fn = fnOf Tryd.prog 13 := (Option.some.inj (hfn13.symm.trans hfn)).symm
   exact ⟨by kernel_rfl, fun j t ht => by
    have hm : t ∈ (fnOf Tryd.prog 13).params.toList := by simpa using Array.mem_of_getElem? ht
    have hall : ((fnOf Tryd.prog 13).params.toList.all fun u => !Tryd.prog.wantsStandIn u) = true := by kernel_rfl
    exact (show Tryd.prog.wantsStandIn t = false by simpa using List.all_eq_true.1 hall t hm)⟩)
  (by kernel_rfl)
end Go.Proofs.YtcecdmdnfmgnfaaDoor
