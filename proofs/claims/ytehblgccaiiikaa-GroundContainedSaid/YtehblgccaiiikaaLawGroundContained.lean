/- GroundContained: the given statement is proved: at every input the law returns true, and the input reads as it did. No condition. -/
import Derived.Test.YtehblgccaiiikaaWalkGroundContained
import Derived.Test.YtehblgccaiiikaaLayB
import Derived.Test.YtehblgccaiiikaaMxU
import Derived.Test.YtehblgccaiiikaaRows
import Derived.ProofKit
namespace Go.Proofs.Ytehblgccaiiikaa
open Go Go.Mx
set_option maxRecDepth 100000
theorem tx_cm_of {l:List (Int×Int)} (h:v_mok l):v_cm l = (0,0) := by
  unfold v_cm
  have h0:0 < l.length := List.length_pos_iff.2 h.ne
  have h4 := h.len
  rw [show ((l.length:Int) == 0) = false from beq_eq_false_iff_ne.2 (by omega),decide_eq_false (show ¬ (l.length:Int) > 4 by omega)]
  simp only [cond_false]
  have key:∀ (r a:List (Int×Int)),l = a ++ r→v_scan (v_cm1 l.length) ((0,0):Int×Int) (a.length:Int) r = (0,0) := by
    intro r
    induction r with
    | nil => intro a _; rfl
    | cons x r ih =>
      intro a e
      have hx := h.ok x (by rw [e]; simp)
      have hn:v_cm1 l.length (a.length:Int) x = none := by
        unfold v_cm1
        rw [tx_within.2 hx.c,tx_within.2 hx.t]
        cases c:((a.length:Int) == (l.length:Int) - 1)
        · rfl
        · have c := beq_iff_eq.1 c
          have:r = [] := by
            rw [e] at c
            simp only [List.length_append,List.length_cons] at c
            exact List.length_eq_zero_iff.1 (by omega)
          subst this
          rw [h.last a x e]; rfl
      unfold v_scan
      rw [hn]
      have := ih (a ++ [x]) (by rw [e]; simp)
      rw [List.length_append,List.length_singleton,Int.natCast_add] at this
      exact this
  exact key l [] rfl
/-- A response that is small,or too great. -/
structure v_rs (f:Int×Int):Prop where
  n:0 < f.1∧f.1≤1000000000
  d:0 < f.2∧f.2≤1000000000
  g:v_gcd f.1 f.2 = 1
theorem v_expn_in (d:List (Int×Int×Int)):∀ (zs:List (Int×List (Int×Int))) (z:Int×List (Int×Int)),z∈zs→v_exAll z.2 d = true→z.1∈v_expn d zs
  | [],_,h,_ => by cases h
  | y :: r,z,h,hz => by
    have e:v_expn d (y :: r) = cond (v_exAll y.2 d) (y.1 :: v_expn d r) (v_expn d r) := rfl
    rw [e]
    rcases List.mem_cons.1 h with rfl | h
    · rw [hz,cond_true]; simp
    · have := v_expn_in d r z h hz
      cases v_exAll y.2 d
      · exact this
      · exact List.mem_cons_of_mem _ this
theorem v_mdls_is {c:List (List Int×List Int)} {z:Int×List (Int×Int)}:z∈v_mdls c ↔ ∃ k:Nat,k < (v_count c).toNat∧z = ((k:Int),v_mdl c (k:Int)) := by
  unfold v_mdls
  rw [List.mem_map]
  constructor
  · rintro ⟨k,hk,rfl⟩; exact ⟨k,List.mem_range.1 hk,rfl⟩
  · rintro ⟨k,hk,rfl⟩; exact ⟨k,List.mem_range.2 hk,rfl⟩
/-- A number is returned exactly if its model explains the data. -/
theorem v_expn_iff {d:List (Int×Int×Int)} {c:List (List Int×List Int)} {k:Int}:k∈v_expn d (v_mdls c) ↔ (0≤k∧k < v_count c)∧v_exAll (v_mdl c k) d = true := by
  constructor
  · intro h
    obtain ⟨z,hz,rfl,e⟩ := v_expn_mem d _ _ h
    obtain ⟨j,hj,rfl⟩ := v_mdls_is.1 hz
    exact ⟨by show (0:Int)≤(j:Int)∧(j:Int) < _; omega,e⟩
  · rintro ⟨⟨h1,h2⟩,e⟩
    have := v_expn_in d (v_mdls c) (k,v_mdl c k) (v_mdls_is.2 ⟨k.toNat,by omega,by rw [Int.toNat_of_nonneg h1]⟩) e
    exact this
/-- Ranges over models,layer by layer. -/
abbrev RGT:Type := (Int×Int)×(Int×Int)
def v_rj (c:List (List Int×List Int)) (j:Nat) (x:RGT) (l:List Int):RGT := l.foldl (fun a n => v_wd1 a ((v_mdl c n).getD j (0,0))) x
theorem v_rngs_len (c:List (List Int×List Int)):∀ (l:List Int) (out:List RGT),(out = [] ∨ out.length = c.length)→(l ≠ [] ∨ out.length = c.length)→(v_rngs c out l).length = c.length
  | [],out,h1,h2 => by
    rcases h2 with h2 | h2
    · exact (h2 rfl).elim
    · exact h2
  | n :: r,out,h1,h2 => by
    have hm:(v_mdl c n).length = c.length := v_mod_len c n
    have hw:(v_wdm out (v_mdl c n)).length = c.length := by rw [v_wdm_len (by rw [hm]; exact h1),hm]
    exact v_rngs_len c r (v_wdm out (v_mdl c n)) (.inr hw) (.inr hw)
theorem v_rngs_get (c:List (List Int×List Int)) {j:Nat} (hj:j < c.length):∀ (l:List Int) (out:List RGT),out.length = c.length→(v_rngs c out l).getD j ((0,0),(0,0)) = v_rj c j (out.getD j ((0,0),(0,0))) l
  | [],out,_ => rfl
  | n :: r,out,h => by
    have hm:(v_mdl c n).length = c.length := v_mod_len c n
    have hw:(v_wdm out (v_mdl c n)).length = c.length := by rw [v_wdm_len (by rw [hm]; exact .inr h),hm]
    have ih := v_rngs_get c hj r (v_wdm out (v_mdl c n)) hw
    have e:(v_wdm out (v_mdl c n)).getD j ((0,0),(0,0)) = v_wd1 (out.getD j ((0,0),(0,0))) ((v_mdl c n).getD j (0,0)) := by
      unfold v_wdm
      rw [show out.isEmpty = false by cases out with | nil => simp at h; omega | cons => rfl,cond_false]
      rw [List.getD_eq_getElem?_getD,List.getElem?_zipWith,List.getD_eq_getElem?_getD,List.getD_eq_getElem?_getD,List.getElem?_eq_getElem (show j < (v_mdl c n).length by omega),List.getElem?_eq_getElem (show j < out.length by omega)]; rfl
    show (v_rngs c (v_wdm out (v_mdl c n)) r).getD j _ = v_rj c j (v_wd1 (out.getD j ((0,0),(0,0))) ((v_mdl c n).getD j (0,0))) r
    rw [ih,e]
/-- What a widened range contains,and what its ends are. -/
structure v_rin (z:RGT) (y:Int×Int):Prop where
  a:z.1.1≤y.1
  b:y.1≤z.1.2
  c:z.2.1≤y.2
  d:y.2≤z.2.2
theorem v_rj_in (c:List (List Int×List Int)) (j:Nat):∀ (l:List Int) (x:RGT),(∀ y,v_rin x y→v_rin (v_rj c j x l) y)∧(∀ n∈l,v_rin (v_rj c j x l) ((v_mdl c n).getD j (0,0)))
  | [],x => ⟨fun y h => h,fun n h => (by cases h)⟩
  | n :: r,x => by
    obtain ⟨h1,h2⟩ := v_rj_in c j r (v_wd1 x ((v_mdl c n).getD j (0,0)))
    have e:v_rj c j x (n :: r) = v_rj c j (v_wd1 x ((v_mdl c n).getD j (0,0))) r := rfl
    rw [e]
    refine ⟨fun y h => h1 y ?_,fun k hk => ?_⟩
    · obtain ⟨a,b,c,d⟩ := h
      unfold v_wd1
      exact ⟨by show min _ _≤_; omega,by show _≤max _ _; omega,by show min _ _≤_; omega,by show _≤max _ _; omega⟩
    · rcases List.mem_cons.1 hk with rfl | hk
      · refine h1 _ ?_
        unfold v_wd1
        exact ⟨by show min _ _≤_; omega,by show _≤max _ _; omega,by show min _ _≤_; omega,by show _≤max _ _; omega⟩
      · exact h2 k hk
theorem v_rj_at (c:List (List Int×List Int)) (j:Nat):∀ (l:List Int) (x:RGT),
    ((v_rj c j x l).1.1 = x.1.1 ∨ ∃ n∈l,((v_mdl c n).getD j (0,0)).1 = (v_rj c j x l).1.1)∧((v_rj c j x l).1.2 = x.1.2 ∨ ∃ n∈l,((v_mdl c n).getD j (0,0)).1 = (v_rj c j x l).1.2) ∧
    ((v_rj c j x l).2.1 = x.2.1 ∨ ∃ n∈l,((v_mdl c n).getD j (0,0)).2 = (v_rj c j x l).2.1)∧((v_rj c j x l).2.2 = x.2.2 ∨ ∃ n∈l,((v_mdl c n).getD j (0,0)).2 = (v_rj c j x l).2.2)
  | [],x => ⟨.inl rfl,.inl rfl,.inl rfl,.inl rfl⟩
  | n :: r,x => by
    obtain ⟨h1,h2,h3,h4⟩ := v_rj_at c j r (v_wd1 x ((v_mdl c n).getD j (0,0)))
    have e:v_rj c j x (n :: r) = v_rj c j (v_wd1 x ((v_mdl c n).getD j (0,0))) r := rfl
    rw [e]
    have up:∀ {q:Int→Prop},(∃ k∈r,q k)→∃ k∈n :: r,q k := fun ⟨k,hk,h⟩ => ⟨k,List.mem_cons_of_mem _ hk,h⟩
    have e1:(v_wd1 x ((v_mdl c n).getD j (0,0))).1.1 = min x.1.1 ((v_mdl c n).getD j (0,0)).1 := rfl
    have e2:(v_wd1 x ((v_mdl c n).getD j (0,0))).1.2 = max x.1.2 ((v_mdl c n).getD j (0,0)).1 := rfl
    have e3:(v_wd1 x ((v_mdl c n).getD j (0,0))).2.1 = min x.2.1 ((v_mdl c n).getD j (0,0)).2 := rfl
    have e4:(v_wd1 x ((v_mdl c n).getD j (0,0))).2.2 = max x.2.2 ((v_mdl c n).getD j (0,0)).2 := rfl
    refine ⟨?_,?_,?_,?_⟩
    · rcases h1 with h | h
      · rw [e1] at h
        rcases Int.le_total x.1.1 ((v_mdl c n).getD j (0,0)).1 with g | g
        · exact .inl (by omega)
        · exact .inr ⟨n,by simp,by omega⟩
      · exact .inr (up h)
    · rcases h2 with h | h
      · rw [e2] at h
        rcases Int.le_total x.1.2 ((v_mdl c n).getD j (0,0)).1 with g | g
        · exact .inr ⟨n,by simp,by omega⟩
        · exact .inl (by omega)
      · exact .inr (up h)
    · rcases h3 with h | h
      · rw [e3] at h
        rcases Int.le_total x.2.1 ((v_mdl c n).getD j (0,0)).2 with g | g
        · exact .inl (by omega)
        · exact .inr ⟨n,by simp,by omega⟩
      · exact .inr (up h)
    · rcases h4 with h | h
      · rw [e4] at h
        rcases Int.le_total x.2.2 ((v_mdl c n).getD j (0,0)).2 with g | g
        · exact .inr ⟨n,by simp,by omega⟩
        · exact .inl (by omega)
      · exact .inr (up h)
/-- The ranges over some models contain them all,and each end is that of one. -/
theorem v_rngs_is {c:List (List Int×List Int)} {l:List Int} (hl:l ≠ []) {j:Nat} (hj:j < c.length):∃ z:RGT,(v_rngs c [] l).getD j ((0,0),(0,0)) = z∧(∀ n∈l,v_rin z ((v_mdl c n).getD j (0,0))) ∧
    (∃ n∈l,((v_mdl c n).getD j (0,0)).1 = z.1.1)∧(∃ n∈l,((v_mdl c n).getD j (0,0)).1 = z.1.2)∧(∃ n∈l,((v_mdl c n).getD j (0,0)).2 = z.2.1)∧(∃ n∈l,((v_mdl c n).getD j (0,0)).2 = z.2.2) := by
  cases l with
  | nil => exact (hl rfl).elim
  | cons n r =>
    have hm:(v_mdl c n).length = c.length := v_mod_len c n
    have e:v_rngs c [] (n :: r) = v_rngs c ((v_mdl c n).map v_pt) r := rfl
    have hg:((v_mdl c n).map v_pt).getD j ((0,0),(0,0)) = v_pt ((v_mdl c n).getD j (0,0)) := by
      rw [List.getD_eq_getElem?_getD,List.getElem?_map,List.getD_eq_getElem?_getD,List.getElem?_eq_getElem (show j < (v_mdl c n).length by omega)]; rfl
    refine ⟨_,by rw [e,v_rngs_get c hj r _ (by rw [List.length_map,hm]),hg],?_⟩
    obtain ⟨i1,i2⟩ := v_rj_in c j r (v_pt ((v_mdl c n).getD j (0,0)))
    obtain ⟨a1,a2,a3,a4⟩ := v_rj_at c j r (v_pt ((v_mdl c n).getD j (0,0)))
    have up:∀ {q:Int→Prop},(∃ k∈r,q k)→∃ k∈n :: r,q k := fun ⟨k,hk,h⟩ => ⟨k,List.mem_cons_of_mem _ hk,h⟩
    refine ⟨fun k hk => ?_,a1.elim (fun h => ⟨n,by simp,h.symm⟩) up,a2.elim (fun h => ⟨n,by simp,h.symm⟩) up,a3.elim (fun h => ⟨n,by simp,h.symm⟩) up,a4.elim (fun h => ⟨n,by simp,h.symm⟩) up⟩
    rcases List.mem_cons.1 hk with rfl | hk
    · exact i1 _ ⟨Int.le_refl _,Int.le_refl _,Int.le_refl _,Int.le_refl _⟩
    · exact i2 k hk
/-- Wider data lose no model,nor do fewer. -/
theorem v_ex_wide {m:List (Int×Int)} {s:Int} {lo hi lo' hi' : Int} (hm:v_mok m) (hs:v_sok s) (h1:lo'≤lo) (h2:hi≤hi') (h:v_ex m (s,lo,hi) = true):v_ex m (s,lo',hi') = true := by
  have hr := v_rsm_of hm hs
  unfold v_ex at h ⊢
  show cond (!(v_below (v_frac (v_resp s m)) (s,lo',hi'))) (!(v_beyond (v_frac (v_resp s m)) (s,lo',hi'))) false = true
  replace h:cond (!(v_below (v_frac (v_resp s m)) (s,lo,hi))) (!(v_beyond (v_frac (v_resp s m)) (s,lo,hi))) false = true := h
  generalize v_frac (v_resp s m) = f at *
  have hd := hr.d.1
  have m1 := Int.mul_le_mul_of_nonneg_right h1 (show 0≤f.2 by omega)
  have m2 := Int.mul_le_mul_of_nonneg_right h2 (show 0≤f.2 by omega)
  unfold v_below v_beyond at *
  simp only [] at *
  by_cases g1:1000 * f.1 < lo * f.2
  · rw [decide_eq_true g1] at h; cases h
  · by_cases g2:1000 * f.1 > hi * f.2
    · rw [decide_eq_false g1,decide_eq_true g2] at h; cases h
    · rw [decide_eq_false (show ¬ 1000 * f.1 < lo' * f.2 by omega),decide_eq_false (show ¬ 1000 * f.1 > hi' * f.2 by omega)]; rfl

/-- Valid data,by their places. -/
structure v_cdv (l:List (Int×Int×Int)):Prop where
  ne:0 < l.length
  len:l.length≤6
  ok:∀ k,k < l.length→v_dok (l.getD k (0,0,0))
  asc:∀ k,0 < k→k < l.length→(l.getD (k - 1) (0,0,0)).1 < (l.getD k (0,0,0)).1
theorem v_cd1_none {l:List (Int×Int×Int)} {k:Nat} {x:Int×Int×Int}:v_cd1 l (k:Int) x = none ↔ v_dok x∧(0 < k→(l.getD (k - 1) (0,0,0)).1 < x.1) := by
  unfold v_cd1
  have hk:((k:Int) - 1).toNat = k - 1 := by omega
  rw [hk]
  constructor
  · intro h
    cases c1:s_base_Within x.1 1 20 <;> cases c2:s_base_Within x.2.1 0 100000 <;> cases c3:s_base_Within x.2.2 0 100000 <;> rw [c1,c2,c3] at h <;> try (cases h; done)
    cases c4:decide (x.2.1≤x.2.2) <;> rw [c4] at h <;> try (cases h; done)
    have d3 := (tx_within.1 c2).1
    have d4 := (tx_within.1 c3).2
    refine ⟨⟨tx_within.1 c1,d3,of_decide_eq_true c4,d4⟩,fun h0 => ?_⟩
    rw [show ((k:Int) == 0) = false from beq_eq_false_iff_ne.2 (by omega)] at h
    cases c5:decide (x.1 > (l.getD (k - 1) (0,0,0)).1) <;> rw [c5] at h
    · cases h
    · exact of_decide_eq_true c5
  · rintro ⟨h,ha⟩
    have b1 := h.lo
    have b2 := h.le
    have b3 := h.hi
    rw [tx_within.2 h.s,tx_within.2 ⟨b1,by omega⟩,tx_within.2 ⟨by omega,b3⟩,decide_eq_true b2]
    rcases int0 (k:Int) with ⟨_,_,e⟩ | ⟨h0,_,e⟩ <;> rw [e]
    · rfl
    · rw [decide_eq_true (show x.1 > _ from ha (by omega))]; rfl
theorem v_cd_iff {l:List (Int×Int×Int)}:(v_cd l).2 = 0 ↔ v_cdv l := by
  constructor
  · intro h
    obtain ⟨hd,hne⟩ := tx_cd_ok h
    have h0:0 < l.length := List.length_pos_iff.2 hne
    have hl := hd.len
    unfold v_cd at h
    rw [show ((l.length:Int) == 0) = false from beq_eq_false_iff_ne.2 (by omega),decide_eq_false (show ¬ (l.length:Int) > 6 by omega)] at h
    simp only [cond_false] at h
    have key := v_scan_end (f := v_cd1 l) (e := ((0,0):Int×Int)) (P := fun (r:Int×Int) => r.2 = 0) l 0 h (fun j x v _ hv hv0 => by
      unfold v_cd1 at hv
      cases c1:cond (s_base_Within x.1 1 20) (cond (s_base_Within x.2.1 0 100000) (s_base_Within x.2.2 0 100000) false) false <;> rw [c1] at hv
      · simp only [cond_false,Option.some.injEq] at hv; subst hv; cases hv0
      · cases c2:cond (decide (x.2.1≤x.2.2)) (cond (j == 0) true (decide (x.1 > (l.getD (j - 1).toNat (0,0,0)).1))) false <;> rw [c2] at hv
        · simp only [cond_true,cond_false,Option.some.injEq] at hv; subst hv; cases hv0
        · cases hv)
    have key2:∀ k,(hk:k < l.length)→v_dok (l.getD k (0,0,0))∧(0 < k→(l.getD (k - 1) (0,0,0)).1 < (l.getD k (0,0,0)).1) := fun k hk => by
      have := key k hk
      rw [Int.zero_add] at this
      rw [gd_get (0,0,0) hk]
      exact v_cd1_none.1 this
    exact ⟨h0,hl,fun k hk => (key2 k hk).1,fun k h0 hk => (key2 k hk).2 h0⟩
  · intro h
    have h0 := h.ne
    have hl := h.len
    unfold v_cd
    rw [show ((l.length:Int) == 0) = false from beq_eq_false_iff_ne.2 (by omega),decide_eq_false (show ¬ (l.length:Int) > 6 by omega)]
    simp only [cond_false]
    have key:∀ (r:List (Int×Int×Int)) (k:Nat),l.drop k = r→v_scan (v_cd1 l) ((0,0):Int×Int) (k:Int) r = (0,0) := by
      intro r
      induction r with
      | nil => intro k _; rfl
      | cons x r ih =>
        intro k e
        have hk:k < l.length := by
          rcases Nat.lt_or_ge k l.length with g | g
          · exact g
          · rw [List.drop_eq_nil_of_le g] at e; cases e
        rw [drop_getD (0,0,0) hk] at e
        simp only [List.cons.injEq] at e
        obtain ⟨e1,e2⟩ := e
        unfold v_scan
        rw [v_cd1_none.2 ⟨e1 ▸ h.ok k hk,fun h0 => e1 ▸ h.asc k h0 hk⟩]
        have := ih (k + 1) e2
        rw [Int.natCast_add] at this
        exact this
    rw [show v_scan (v_cd1 l) ((0,0):Int×Int) 0 l = (0,0) from key l 0 rfl]
/-- Data,each a little wider. -/
def v_wd (p:Int) (x:Int×Int×Int):Int×Int×Int := (x.1,max 0 (x.2.1 - p % 500),min 100000 (x.2.2 + p % 300))
theorem v_wd_ok {p:Int} {x:Int×Int×Int} (h:v_dok x):v_dok (v_wd p x) := by
  have := h.lo
  have := h.le
  have := h.hi
  have := Int.emod_nonneg p (show (500:Int) ≠ 0 by decide)
  have := Int.emod_nonneg p (show (300:Int) ≠ 0 by decide)
  exact ⟨h.s,by show 0≤max _ _; omega,by show max _ _≤min _ _; omega,by show min _ _≤_; omega⟩
theorem v_cdv_wide {l:List (Int×Int×Int)} (p:Int) (h:v_cdv l):v_cdv (l.map (v_wd p)) := by
  have hg:∀ k,k < l.length→(l.map (v_wd p)).getD k (0,0,0) = v_wd p (l.getD k (0,0,0)) := fun k hk => gd_map (0,0,0) hk
  have hl:(l.map (v_wd p)).length = l.length := List.length_map _
  refine ⟨by rw [hl]; exact h.ne,by rw [hl]; exact h.len,fun k hk => ?_,fun k h0 hk => ?_⟩
  · rw [hl] at hk; rw [hg k hk]; exact v_wd_ok (h.ok k hk)
  · rw [hl] at hk; rw [hg k hk,hg (k - 1) (by omega)]; exact h.asc k h0 hk
theorem v_cdv_drop {l:List (Int×Int×Int)} (h:v_cdv l) (h1:1 < l.length):v_cdv (l.drop 1) := by
  have hl:(l.drop 1).length = l.length - 1 := List.length_drop
  have h6 := h.len
  refine ⟨by omega,by omega,fun k hk => ?_,fun k h0 hk => ?_⟩
  · rw [gd_drop]; exact h.ok _ (by omega)
  · rw [gd_drop,gd_drop,show 1 + (k - 1) = 1 + k - 1 by omega]; exact h.asc (1 + k) (by omega) (by omega)
theorem v_cdv_dat {l:List (Int×Int×Int)} (h:v_cdv l):v_dat l := (tx_cd_ok (v_cd_iff.2 h)).1
theorem v_exAll_wide {m:List (Int×Int)} {l:List (Int×Int×Int)} (p:Int) (hm:v_mok m) (hl:v_dat l) (h:v_exAll m l = true):v_exAll m (l.map (v_wd p)) = true := by
  unfold v_exAll at *
  rw [List.all_eq_true] at *
  intro y hy
  obtain ⟨x,hx,rfl⟩ := List.mem_map.1 hy
  have hk := hl.ok x hx
  have := hk.lo
  have := hk.le
  have := hk.hi
  have := Int.emod_nonneg p (show (500:Int) ≠ 0 by decide)
  have := Int.emod_nonneg p (show (300:Int) ≠ 0 by decide)
  exact v_ex_wide (s := x.1) (lo := x.2.1) (hi := x.2.2) hm hk.s (by omega) (by omega) (h x hx)
theorem v_exAll_drop {m:List (Int×Int)} {l:List (Int×Int×Int)} (n:Nat) (h:v_exAll m l = true):v_exAll m (l.drop n) = true := by
  unfold v_exAll at *
  rw [List.all_eq_true] at *
  exact fun x hx => h x (List.mem_of_mem_drop hx)
theorem v_exin_is {c:List (List Int×List Int)} {d:List (Int×Int×Int)} (hc:(v_cc c).2 = 0) (hd:(v_cd d).2 = 0):v_exin c d = (v_expn d (v_mdls c),0) := by
  unfold v_exin; rw [hc,hd]; rfl

abbrev FG:Type := Bool×Bool×Bool×Bool
/-- Which ends are met. -/
def v_hit1 (z:RGT) (y:Int×Int) (f:FG):FG := (cond f.1 true (y.1 == z.1.1),cond f.2.1 true (y.1 == z.1.2),cond f.2.2.1 true (y.2 == z.2.1),cond f.2.2.2 true (y.2 == z.2.2))
def v_hitm (r:List RGT) (m:List (Int×Int)) (t:List FG):List FG := (List.range t.length).map fun j => v_hit1 (r.getD j ((0,0),(0,0))) (m.getD j (0,0)) (t.getD j (false,false,false,false))
theorem v_hitm_len (r:List RGT) (m:List (Int×Int)) (t:List FG):(v_hitm r m t).length = t.length := by unfold v_hitm; simp
theorem v_hitm_get {r:List RGT} {m:List (Int×Int)} {t:List FG} {j:Nat} (hj:j < t.length):(v_hitm r m t).getD j (false,false,false,false) = v_hit1 (r.getD j ((0,0),(0,0))) (m.getD j (0,0)) (t.getD j (false,false,false,false)) := by
  unfold v_hitm
  rw [List.getD_eq_getElem?_getD,List.getElem?_map,List.getElem?_range hj]; rfl
theorem gd_set_self {α:Type} {l:List α} {j:Nat} {a d:α} (h:j < l.length):(l.set j a).getD j d = a := by rw [gd_set h,if_pos rfl]
/-- What the law knows. -/
structure CK (p0:List (List Int×List Int)) (p1:List (Int×Int×Int)):Prop where
  z:(v_cc p0).2 = 0
  c:v_clok p0
  d:v_cdv p1
  m:v_count p0≤60
theorem CK.mof {p0:List (List Int×List Int)} {p1:List (Int×Int×Int)} (h:CK p0 p1) {k:Int} (h0:0≤k) (hk:k < v_count p0):v_mof2 p0 k = (v_mdl p0 k,0) := by
  have hcnt := h.c.cnt
  have hw:IntKind.i64.wrap (v_count p0 - 1) = v_count p0 - 1 := wrap_id (by omega) (by omega)
  unfold v_mof2
  rw [h.z,tx_within.2 ⟨h0,show k≤v_count p0 - 1 by omega⟩]; rfl
theorem CK.expls {p0:List (List Int×List Int)} {p1:List (Int×Int×Int)} (h:CK p0 p1) {k:Int} (h0:0≤k) (l:List (Int×Int×Int)) (hl:(v_cd l).2 = 0):v_expls (v_mdl p0 k) l = (v_exAll (v_mdl p0 k) l,0) := by
  unfold v_expls
  rw [tx_cm_of (v_mdl_mok h.c h0),hl]; rfl
theorem CK.exin {p0:List (List Int×List Int)} {p1:List (Int×Int×Int)} (h:CK p0 p1) (l:List (Int×Int×Int)) (hl:(v_cd l).2 = 0):v_exin p0 l = (v_expn l (v_mdls p0),0) := v_exin_is h.z hl
theorem CK.cd {p0:List (List Int×List Int)} {p1:List (Int×Int×Int)} (h:CK p0 p1):(v_cd p1).2 = 0 := v_cd_iff.2 h.d
theorem CK.rof {p0:List (List Int×List Int)} {p1:List (Int×Int×Int)} (h:CK p0 p1):v_rof p0 p1 = (v_rngs p0 [] (v_expn p1 (v_mdls p0)),cond (decide (((v_rngs p0 [] (v_expn p1 (v_mdls p0))).length:Int) > 0)) 0 12) := by
  unfold v_rof
  rw [h.z,h.cd]; rfl
theorem CK.cof {p0:List (List Int×List Int)} {p1:List (Int×Int×Int)} (h:CK p0 p1):v_cof p0 = (v_count p0,0) := by
  unfold v_cof; rw [h.z]; rfl
theorem l_con_0 {p0:List (List Int×List Int)} {p1:List (Int×Int×Int)} (p2:Int) (h:CK p0 p1) {k:Nat} (hk:(k:Int) < v_count p0) {t:List FG} (ht:t.length = p0.length) (hx:v_exAll (v_mdl p0 k) p1 = true) :
    OkL (st_law04_GroundContained_0 p0 p1 p2 ((k:Int),t)) (sp_law04_GroundContained_0 p0 p1 p2 ((k:Int),t)) (0,t)∧lpv (Sum.inr false) (st_law04_GroundContained_0 p0 p1 p2 ((k:Int),t)) (0,t) = Sum.inl (((k + 1:Nat):Int),v_hitm (v_rngs p0 [] (v_expn p1 (v_mdls p0))) (v_mdl p0 k) t) := by
  have e1 := h.mof (k := (k:Int)) (by omega) hk
  have e2 := h.expls (k := (k:Int)) (by omega) p1 h.cd
  have e3 := congrArg Prod.fst h.rof
  have e4:s_ref04_CopyData p1 = p1 := rfl
  have hcnt := h.c.cnt
  have hl4 := h.c.cne.len
  have hmem:(k:Int)∈v_expn p1 (v_mdls p0) := v_expn_iff.2 ⟨⟨by omega,hk⟩,hx⟩
  have hne:v_expn p1 (v_mdls p0) ≠ [] := fun e => by rw [e] at hmem; cases hmem
  have hrl:(v_rngs p0 [] (v_expn p1 (v_mdls p0))).length = p0.length := v_rngs_len p0 _ [] (.inl rfl) (.inl hne)
  have hml:(v_mdl p0 k).length = p0.length := v_mod_len p0 k
  rw [hx] at e2
  have hwk:IntKind.i64.wrap ((k:Int) + 1) = ((k + 1:Nat):Int) := wrap_id (by omega) (by omega)
  refine @for_is (List FG) (Int×List FG) ((Int×List FG) ⊕ Bool) (Sum.inr false) (st_law04_GroundContained_0 p0 p1 p2 ((k:Int),t)) (sp_law04_GroundContained_0 p0 p1 p2 ((k:Int),t)) (fun i t => (i,t)) 0 p0.length
    (fun j u => u.length = p0.length∧(∀ i,i < j→u.getD i (false,false,false,false) = v_hit1 ((v_rngs p0 [] (v_expn p1 (v_mdls p0))).getD i ((0,0),(0,0))) ((v_mdl p0 k).getD i (0,0)) (t.getD i (false,false,false,false)))∧∀ i,j≤i→u.getD i (false,false,false,false) = t.getD i (false,false,false,false))
    (fun _ _ => Sum.inl (((k + 1:Nat):Int),v_hitm (v_rngs p0 [] (v_expn p1 (v_mdls p0))) (v_mdl p0 k) t)) (by omega) (by omega) ?_ ?_ t ⟨ht,fun i hi => absurd hi (Nat.not_lt_zero _),fun _ _ => rfl⟩
  · rintro u ⟨u1,u2,u3⟩
    have hu:u = v_hitm (v_rngs p0 [] (v_expn p1 (v_mdls p0))) (v_mdl p0 k) t := gd_ext (false,false,false,false) (by rw [v_hitm_len]; omega) (fun i hi => by rw [v_hitm_get (by omega)]; exact u2 i (by omega))
    simp only [sp_law04_GroundContained_0,st_law04_GroundContained_0,List.forall_mem_cons,e1,e4,e3,hml,List.nil_append,e2,hwk,show decide ((p0.length:Int) < (p0.length:Int)) = false from decide_eq_false (by omega),cond_false]
    refine ⟨?_,by rw [hu]⟩
    and_intros
    all_goals first
      | (intro h; cases h; done)
      | (intro p hp; cases hp)
  · rintro j u - hj ⟨u1,u2,u3⟩
    have hd1:decide ((j:Int) < (p0.length:Int)) = true := decide_eq_true (by omega)
    have hw1:IntKind.i64.wrap ((j:Int) + 1) = ((j + 1:Nat):Int) := wrap_id (by omega) (by omega)
    obtain ⟨z,g0,g1,_⟩ := v_rngs_is hne hj
    have hin := g1 _ hmem
    have hju:j < u.length := by omega
    have b1:s_base_Within ((v_mdl p0 k).getD j (0,0)).1 z.1.1 z.1.2 = true := tx_within.2 ⟨hin.a,hin.b⟩
    have b2:s_base_Within ((v_mdl p0 k).getD j (0,0)).2 z.2.1 z.2.2 = true := tx_within.2 ⟨hin.c,hin.d⟩
    simp only [sp_law04_GroundContained_0,st_law04_GroundContained_0,List.forall_mem_cons,e1,e4,e3,hml,List.nil_append,e2,hd1,hw1,cond_true,g0,b1,b2,Bool.not_true,cond_false,Int.toNat_natCast,List.length_set,gd_set_self,hju,List.set_set,hrl]
    refine ⟨?_,.inl ⟨u.set j (v_hit1 z ((v_mdl p0 k).getD j (0,0)) (t.getD j (false,false,false,false))),?_,⟨by rw [List.length_set]; exact u1,fun i hi => ?_,fun i hi => ?_⟩,trivial⟩⟩
    · and_intros
      all_goals first
        | (intro p hp; cases hp; done)
        | (intros; omega)
        | (intros; first | exact hju | trivial)
    · rw [u3 j (Nat.le_refl _)]; rfl
    · rw [gd_set hju]
      split
      · rename_i e; subst e; rw [g0]
      · exact u2 i (by omega)
    · rw [gd_set hju,if_neg (by omega)]; exact u3 i (by omega)
theorem l_con_0f {p0:List (List Int×List Int)} {p1:List (Int×Int×Int)} (p2:Int) (h:CK p0 p1) {k:Nat} (hk:(k:Int) < v_count p0) {t:List FG} (hx:v_exAll (v_mdl p0 k) p1 = false) :
    OkL (st_law04_GroundContained_0 p0 p1 p2 ((k:Int),t)) (sp_law04_GroundContained_0 p0 p1 p2 ((k:Int),t)) (0,t)∧lpv (Sum.inr false) (st_law04_GroundContained_0 p0 p1 p2 ((k:Int),t)) (0,t) = Sum.inl (((k + 1:Nat):Int),t) := by
  have e1 := h.mof (k := (k:Int)) (by omega) hk
  have e2 := h.expls (k := (k:Int)) (by omega) p1 h.cd
  have e4:s_ref04_CopyData p1 = p1 := rfl
  have hcnt := h.c.cnt
  rw [hx] at e2
  have hwk:IntKind.i64.wrap ((k:Int) + 1) = ((k + 1:Nat):Int) := wrap_id (by omega) (by omega)
  have hf:∀ b:Bool,cond b false false = false := by intro b; cases b <;> rfl
  refine @for_is Unit (Int×List FG) ((Int×List FG) ⊕ Bool) (Sum.inr false) (st_law04_GroundContained_0 p0 p1 p2 ((k:Int),t)) (sp_law04_GroundContained_0 p0 p1 p2 ((k:Int),t)) (fun i _ => (i,t)) 0 0 (fun _ _ => True)
    (fun _ _ => Sum.inl (((k + 1:Nat):Int),t)) (by omega) (by omega) ?_ ?_ () trivial
  · rintro u -
    simp only [sp_law04_GroundContained_0,st_law04_GroundContained_0,List.forall_mem_cons,e1,e4,List.nil_append,e2,hwk,hf,cond_false]
    refine ⟨?_,trivial⟩
    and_intros
    all_goals first
      | (intro h; cases h; done)
      | (intro p hp; cases hp)
  · rintro j u - hj; omega
theorem CK.wcd {p0:List (List Int×List Int)} {p1:List (Int×Int×Int)} (h:CK p0 p1) (p2:Int):(v_cd (p1.map (v_wd p2))).2 = 0 := v_cd_iff.2 (v_cdv_wide p2 h.d)
theorem CK.keep {p0:List (List Int×List Int)} {p1:List (Int×Int×Int)} (h:CK p0 p1) {n:Int} (hn:n∈v_expn p1 (v_mdls p0)):(∀ p2,v_has (v_expn (p1.map (v_wd p2)) (v_mdls p0)) n = true)∧v_has (v_expn (p1.drop 1) (v_mdls p0)) n = true := by
  obtain ⟨h1,h2⟩ := v_expn_iff.1 hn
  have hm := v_mdl_mok h.c h1.1
  exact ⟨fun p2 => decide_eq_true (v_expn_iff.2 ⟨h1,v_exAll_wide p2 hm (v_cdv_dat h.d) h2⟩),decide_eq_true (v_expn_iff.2 ⟨h1,v_exAll_drop 1 h2⟩)⟩
theorem CK.elen {p0:List (List Int×List Int)} {p1:List (Int×Int×Int)} (h:CK p0 p1) (d:List (Int×Int×Int)):(v_expn d (v_mdls p0)).length≤60 := by
  have := v_expn_len d (v_mdls p0)
  rw [v_mdls_len] at this
  have := h.m
  omega
theorem l_con_1 {p0:List (List Int×List Int)} {p1:List (Int×Int×Int)} (p2:Int) (h:CK p0 p1) (h1:1 < p1.length) (y2:Int×List FG) (y8 i:Int) :
    OkL (st_law04_GroundContained_1 p0 p1 p2 y2 y8 (i,p1.map (v_wd p2))) (sp_law04_GroundContained_1 p0 p1 p2 y2 y8 (i,p1.map (v_wd p2))) 0∧lpv (Sum.inr (Sum.inr (Sum.inr false))) (st_law04_GroundContained_1 p0 p1 p2 y2 y8 (i,p1.map (v_wd p2))) 0 = Sum.inr (Sum.inr (Sum.inr true)) := by
  have e4:s_ref04_CopyData p1 = p1 := rfl
  have e5:s_ref04_CopyData (List.drop 1 p1) = List.drop 1 p1 := rfl
  have e1 := h.exin p1 h.cd
  have e2 := h.exin (p1.map (v_wd p2)) (h.wcd p2)
  have e3 := h.exin (p1.drop 1) (v_cd_iff.2 (v_cdv_drop h.d h1))
  have l1 := h.elen p1
  have lk1:lenOk (v_expn (p1.map (v_wd p2)) (v_mdls p0)) := lenOk_le (h.elen _) (by decide)
  have lk2:lenOk (v_expn (p1.drop 1) (v_mdls p0)) := lenOk_le (h.elen _) (by decide)
  refine @for_is Unit Int ((Int×List (Int×Int×Int)) ⊕ (Int ⊕ ((Int×List FG) ⊕ Bool))) (Sum.inr (Sum.inr (Sum.inr false))) (st_law04_GroundContained_1 p0 p1 p2 y2 y8 (i,p1.map (v_wd p2))) (sp_law04_GroundContained_1 p0 p1 p2 y2 y8 (i,p1.map (v_wd p2))) (fun i _ => i) 0 (v_expn p1 (v_mdls p0)).length (fun _ _ => True)
    (fun _ _ => Sum.inr (Sum.inr (Sum.inr true))) (by omega) (by omega) ?_ ?_ () trivial
  · rintro u -
    simp only [sp_law04_GroundContained_1,st_law04_GroundContained_1,List.forall_mem_cons,e1,e2,e4,show decide (((v_expn p1 (v_mdls p0)).length:Int) < ((v_expn p1 (v_mdls p0)).length:Int)) = false from decide_eq_false (by omega),cond_false]
    refine ⟨?_,rfl⟩
    and_intros
    all_goals first
      | (intro h; cases h; done)
      | (intro p hp; cases hp)
  · rintro j u - hj -
    have hd1:decide ((j:Int) < ((v_expn p1 (v_mdls p0)).length:Int)) = true := decide_eq_true (by omega)
    have hw1:IntKind.i64.wrap ((j:Int) + 1) = ((j + 1:Nat):Int) := wrap_id (by omega) (by omega)
    obtain ⟨k1,k2⟩ := h.keep (v_getD_mem (d := 0) hj)
    have k1 := k1 p2
    simp only [sp_law04_GroundContained_1,st_law04_GroundContained_1,List.forall_mem_cons,e1,e2,e4,show Int.toNat (1:Int) = 1 from rfl,e5,e3,hd1,cond_true,Int.toNat_natCast,k1,k2,Bool.not_true,cond_false,hw1]
    refine ⟨?_,.inl ⟨(),trivial,trivial,trivial⟩⟩
    and_intros
    all_goals first
      | (intro p hp; cases hp; done)
      | (intros; first | exact lk1 | exact lk2 | omega)
theorem l_con_2 {p0:List (List Int×List Int)} {p1:List (Int×Int×Int)} (p2:Int) (h:CK p0 p1) (y2:Int×List FG) (y8 i:Int) :
    OkL (st_law04_GroundContained_2 p0 p1 p2 y2 y8 (i,p1.map (v_wd p2))) (sp_law04_GroundContained_2 p0 p1 p2 y2 y8 (i,p1.map (v_wd p2))) 0∧lpv (Sum.inr (Sum.inr (Sum.inr false))) (st_law04_GroundContained_2 p0 p1 p2 y2 y8 (i,p1.map (v_wd p2))) 0 = Sum.inr (Sum.inr (Sum.inr true)) := by
  have e4:s_ref04_CopyData p1 = p1 := rfl
  have e1 := h.exin p1 h.cd
  have e2 := h.exin (p1.map (v_wd p2)) (h.wcd p2)
  have l1 := h.elen p1
  have lk1:lenOk (v_expn (p1.map (v_wd p2)) (v_mdls p0)) := lenOk_le (h.elen _) (by decide)
  refine @for_is Unit Int ((Int×List (Int×Int×Int)) ⊕ (Int ⊕ ((Int×List FG) ⊕ Bool))) (Sum.inr (Sum.inr (Sum.inr false))) (st_law04_GroundContained_2 p0 p1 p2 y2 y8 (i,p1.map (v_wd p2))) (sp_law04_GroundContained_2 p0 p1 p2 y2 y8 (i,p1.map (v_wd p2))) (fun i _ => i) 0 (v_expn p1 (v_mdls p0)).length (fun _ _ => True)
    (fun _ _ => Sum.inr (Sum.inr (Sum.inr true))) (by omega) (by omega) ?_ ?_ () trivial
  · rintro u -
    simp only [sp_law04_GroundContained_2,st_law04_GroundContained_2,List.forall_mem_cons,e1,e2,e4,show decide (((v_expn p1 (v_mdls p0)).length:Int) < ((v_expn p1 (v_mdls p0)).length:Int)) = false from decide_eq_false (by omega),cond_false]
    refine ⟨?_,rfl⟩
    and_intros
    all_goals first
      | (intro h; cases h; done)
      | (intro p hp; cases hp)
  · rintro j u - hj -
    have hd1:decide ((j:Int) < ((v_expn p1 (v_mdls p0)).length:Int)) = true := decide_eq_true (by omega)
    have hw1:IntKind.i64.wrap ((j:Int) + 1) = ((j + 1:Nat):Int) := wrap_id (by omega) (by omega)
    obtain ⟨k1,k2⟩ := h.keep (v_getD_mem (d := 0) hj)
    have k1 := k1 p2
    simp only [sp_law04_GroundContained_2,st_law04_GroundContained_2,List.forall_mem_cons,e1,e2,e4,hd1,cond_true,Int.toNat_natCast,k1,Bool.not_true,cond_false,hw1]
    refine ⟨?_,.inl ⟨(),trivial,trivial,trivial⟩⟩
    and_intros
    all_goals first
      | (intro p hp; cases hp; done)
      | (intros; first | exact lk1 | omega)
theorem l_con_3 {p0:List (List Int×List Int)} {p1:List (Int×Int×Int)} (p2:Int) (h:CK p0 p1) (hf:v_few p0) (y2:Int×List FG) (y8:Int) :
    OkL (st_law04_GroundContained_3 p0 p1 p2 y2 y8) (sp_law04_GroundContained_3 p0 p1 p2 y2 y8) (0,p1)∧lpv (Sum.inr (Sum.inr false)) (st_law04_GroundContained_3 p0 p1 p2 y2 y8) (0,p1) = Sum.inr (Sum.inr true) := by
  have e5:s_ref04_CopyData (List.drop 1 p1) = List.drop 1 p1 := rfl
  have hl := h.d.len
  have hl4 := h.c.cne.len
  refine @for_is (List (Int×Int×Int)) (Int×List (Int×Int×Int)) (Int ⊕ ((Int×List FG) ⊕ Bool)) (Sum.inr (Sum.inr false)) (st_law04_GroundContained_3 p0 p1 p2 y2 y8) (sp_law04_GroundContained_3 p0 p1 p2 y2 y8) (fun i t => (i,t)) 0 p1.length (fun j t => t.length = p1.length∧(∀ i,i < j→t.getD i (0,0,0) = v_wd p2 (p1.getD i (0,0,0)))∧∀ i,j≤i→t.getD i (0,0,0) = p1.getD i (0,0,0))
    (fun _ _ => Sum.inr (Sum.inr true)) (by omega) (by omega) ?_ ?_ p1 ⟨rfl,fun i hi => absurd hi (Nat.not_lt_zero _),fun _ _ => rfl⟩
  · rintro t ⟨t1,t2,t3⟩
    have ht:t = p1.map (v_wd p2) := gd_ext (0,0,0) (by rw [List.length_map]; exact t1) (fun i hi => by rw [gd_map (0,0,0) (by omega)]; exact t2 i (by omega))
    rw [ht]
    have hml:(p1.map (v_wd p2)).length = p1.length := List.length_map _
    obtain ⟨o2,v2⟩ := l_con_2 p2 h y2 y8 (p1.length:Int)
    simp only [sp_law04_GroundContained_3,st_law04_GroundContained_3,List.forall_mem_cons,hml,show Int.toNat (1:Int) = 1 from rfl,e5,show decide ((p1.length:Int) < (p1.length:Int)) = false from decide_eq_false (by omega),cond_false,v2]
    by_cases h1:(p1.length:Int) > 1
    · have e3 := h.exin (p1.drop 1) (v_cd_iff.2 (v_cdv_drop h.d (by omega)))
      obtain ⟨o1,v1⟩ := l_con_1 p2 h (by omega) y2 y8 (p1.length:Int)
      rw [decide_eq_true h1,e3,v1]
      refine ⟨?_,rfl⟩
      and_intros
      all_goals first
        | (intro h; cases h; done)
        | (intro p hp; cases hp; done)
        | (intros; first | exact hf | exact o1 | exact o2 | omega | (simp; omega))
    · rw [decide_eq_false h1]
      refine ⟨?_,rfl⟩
      and_intros
      all_goals first
        | (intro h; cases h; done)
        | (intro p hp; cases hp; done)
        | (intros; first | exact hf | exact o2 | omega | (simp; omega))
        | (intro _ h; cases h; done)
  · rintro j t - hj ⟨t1,t2,t3⟩
    have hd1:decide ((j:Int) < (t.length:Int)) = true := decide_eq_true (by omega)
    have hw1:IntKind.i64.wrap ((j:Int) + 1) = ((j + 1:Nat):Int) := wrap_id (by omega) (by omega)
    have hk := h.d.ok j hj
    have b1 := hk.lo
    have b2 := hk.le
    have b3 := hk.hi
    have m1 := Int.emod_nonneg p2 (show (500:Int) ≠ 0 by decide)
    have m2 := Int.emod_nonneg p2 (show (300:Int) ≠ 0 by decide)
    have m3 := Int.emod_lt_of_pos p2 (show (0:Int) < 500 by decide)
    have m4 := Int.emod_lt_of_pos p2 (show (0:Int) < 300 by decide)
    have hjt:j < t.length := by omega
    have w1:IntKind.i64.wrap ((p1.getD j (0,0,0)).2.1 - p2 % 500) = (p1.getD j (0,0,0)).2.1 - p2 % 500 := wrap_id (by omega) (by omega)
    have w2:IntKind.i64.wrap ((p1.getD j (0,0,0)).2.2 + p2 % 300) = (p1.getD j (0,0,0)).2.2 + p2 % 300 := wrap_id (by omega) (by omega)
    simp only [sp_law04_GroundContained_3,st_law04_GroundContained_3,List.forall_mem_cons,hd1,cond_true,hw1,Int.toNat_natCast,t3 j (Nat.le_refl _),w1,w2]
    refine ⟨?_,.inl ⟨t.set j (v_wd p2 (p1.getD j (0,0,0))),rfl,⟨by rw [List.length_set]; exact t1,fun i hi => ?_,fun i hi => ?_⟩,trivial⟩⟩
    · and_intros
      all_goals first
        | (intro p hp; cases hp; done)
        | (intro h; cases h; done)
        | (intros; omega)
    · rw [gd_set hjt]
      split
      · rename_i e; subst e; rfl
      · exact t2 i (by omega)
    · rw [gd_set hjt,if_neg (by omega)]; exact t3 i (by omega)
/-- What has been met so far. -/
structure HK (p0:List (List Int×List Int)) (p1:List (Int×Int×Int)) (k:Nat) (t:List FG):Prop where
  len:t.length = p0.length
  a:∀ i:Nat,i < k→v_exAll (v_mdl p0 i) p1 = true→∀ j,j < p0.length→((v_mdl p0 i).getD j (0,0)).1 = ((v_rngs p0 [] (v_expn p1 (v_mdls p0))).getD j ((0,0),(0,0))).1.1→(t.getD j (false,false,false,false)).1 = true
  b:∀ i:Nat,i < k→v_exAll (v_mdl p0 i) p1 = true→∀ j,j < p0.length→((v_mdl p0 i).getD j (0,0)).1 = ((v_rngs p0 [] (v_expn p1 (v_mdls p0))).getD j ((0,0),(0,0))).1.2→(t.getD j (false,false,false,false)).2.1 = true
  c:∀ i:Nat,i < k→v_exAll (v_mdl p0 i) p1 = true→∀ j,j < p0.length→((v_mdl p0 i).getD j (0,0)).2 = ((v_rngs p0 [] (v_expn p1 (v_mdls p0))).getD j ((0,0),(0,0))).2.1→(t.getD j (false,false,false,false)).2.2.1 = true
  d:∀ i:Nat,i < k→v_exAll (v_mdl p0 i) p1 = true→∀ j,j < p0.length→((v_mdl p0 i).getD j (0,0)).2 = ((v_rngs p0 [] (v_expn p1 (v_mdls p0))).getD j ((0,0),(0,0))).2.2→(t.getD j (false,false,false,false)).2.2.2 = true
theorem hit_or {b:Bool} {x y:Int} (h:b = true ∨ x = y):cond b true (x == y) = true := by
  rcases h with h | h
  · rw [h]; rfl
  · cases b
    · exact beq_iff_eq.2 h
    · rfl
theorem HK.next {p0:List (List Int×List Int)} {p1:List (Int×Int×Int)} {k:Nat} {t:List FG} (h:HK p0 p1 k t):HK p0 p1 (k + 1) (v_hitm (v_rngs p0 [] (v_expn p1 (v_mdls p0))) (v_mdl p0 k) t) := by
  have hl := h.len
  refine ⟨by rw [v_hitm_len]; exact hl,?_,?_,?_,?_⟩ <;> intro i hi hx j hj he <;> rw [v_hitm_get (by omega)] <;> refine hit_or ?_
  · rcases Nat.lt_or_ge i k with g | g
    · exact .inl (h.a i g hx j hj he)
    · obtain rfl:i = k := by omega
      exact .inr he
  · rcases Nat.lt_or_ge i k with g | g
    · exact .inl (h.b i g hx j hj he)
    · obtain rfl:i = k := by omega
      exact .inr he
  · rcases Nat.lt_or_ge i k with g | g
    · exact .inl (h.c i g hx j hj he)
    · obtain rfl:i = k := by omega
      exact .inr he
  · rcases Nat.lt_or_ge i k with g | g
    · exact .inl (h.d i g hx j hj he)
    · obtain rfl:i = k := by omega
      exact .inr he
theorem HK.skip {p0:List (List Int×List Int)} {p1:List (Int×Int×Int)} {k:Nat} {t:List FG} (h:HK p0 p1 k t) (hx:v_exAll (v_mdl p0 k) p1 = false):HK p0 p1 (k + 1) t := by
  have cut:∀ {i:Nat},i < k + 1→v_exAll (v_mdl p0 i) p1 = true→i < k := fun {i} hi h2 => by
    rcases Nat.lt_or_ge i k with g | g
    · exact g
    · obtain rfl:i = k := by omega
      rw [hx] at h2; cases h2
  exact ⟨h.len,fun i hi h2 => h.a i (cut hi h2) h2,fun i hi h2 => h.b i (cut hi h2) h2,fun i hi h2 => h.c i (cut hi h2) h2,fun i hi h2 => h.d i (cut hi h2) h2⟩
theorem HK.all {p0:List (List Int×List Int)} {p1:List (Int×Int×Int)} {t:List FG} (h:HK p0 p1 (v_count p0).toNat t) (hne:v_expn p1 (v_mdls p0) ≠ []) {j:Nat} (hj:j < p0.length):t.getD j (false,false,false,false) = (true,true,true,true) := by
  obtain ⟨z,g0,_,⟨n1,m1,e1⟩,⟨n2,m2,e2⟩,⟨n3,m3,e3⟩,⟨n4,m4,e4⟩⟩ := v_rngs_is hne hj
  have nn:∀ {n:Int},n∈v_expn p1 (v_mdls p0)→n.toNat < (v_count p0).toNat∧((n.toNat:Nat):Int) = n∧v_exAll (v_mdl p0 n) p1 = true := fun {n} hn => by
    obtain ⟨a,b⟩ := v_expn_iff.1 hn
    exact ⟨by omega,by omega,b⟩
  have f1 := h.a n1.toNat (nn m1).1 (by rw [(nn m1).2.1]; exact (nn m1).2.2) j hj (by rw [(nn m1).2.1,g0]; exact e1)
  have f2 := h.b n2.toNat (nn m2).1 (by rw [(nn m2).2.1]; exact (nn m2).2.2) j hj (by rw [(nn m2).2.1,g0]; exact e2)
  have f3 := h.c n3.toNat (nn m3).1 (by rw [(nn m3).2.1]; exact (nn m3).2.2) j hj (by rw [(nn m3).2.1,g0]; exact e3)
  have f4 := h.d n4.toNat (nn m4).1 (by rw [(nn m4).2.1]; exact (nn m4).2.2) j hj (by rw [(nn m4).2.1,g0]; exact e4)
  generalize t.getD j (false,false,false,false) = f at *
  obtain ⟨x1,x2,x3,x4⟩ := f
  simp only at f1 f2 f3 f4
  rw [f1,f2,f3,f4]
theorem l_con_4 {p0:List (List Int×List Int)} {p1:List (Int×Int×Int)} (p2:Int) (h:CK p0 p1) (hf:v_few p0) (i:Int) {t:List FG} (ht:HK p0 p1 (v_count p0).toNat t) :
    OkL (st_law04_GroundContained_4 p0 p1 p2 (i,t)) (sp_law04_GroundContained_4 p0 p1 p2 (i,t)) 0∧lpv (Sum.inr false) (st_law04_GroundContained_4 p0 p1 p2 (i,t)) 0 = Sum.inr true := by
  have e4:s_ref04_CopyData p1 = p1 := rfl
  have e1 := h.exin p1 h.cd
  have hl := h.d.len
  have hl4 := h.c.cne.len
  have htl := ht.len
  have hf2:∀ b:Bool,cond b false false = false := by intro b; cases b <;> rfl
  by_cases hne:v_expn p1 (v_mdls p0) = []
  · refine @for_is Unit Int ((Int×List FG) ⊕ Bool) (Sum.inr false) (st_law04_GroundContained_4 p0 p1 p2 (i,t)) (sp_law04_GroundContained_4 p0 p1 p2 (i,t)) (fun i _ => i) 0 0 (fun _ _ => True) (fun _ _ => Sum.inr true) (by omega) (by omega) ?_ ?_ () trivial
    · rintro u -
      obtain ⟨o3,v3⟩ := l_con_3 p2 h hf (i,t) 0
      simp only [sp_law04_GroundContained_4,st_law04_GroundContained_4,List.forall_mem_cons,e1,e4,hne,List.length_nil,Int.natCast_zero,show decide ((0:Int) > 0) = false from rfl,hf2,cond_false,v3]
      refine ⟨?_,trivial⟩
      and_intros
      all_goals first
        | (intro h; cases h; done)
        | (intro p hp; cases hp; done)
        | (intros; first | exact o3 | omega | (simp only [List.length_nil]; omega))
    · rintro j u - hj; omega
  · refine @for_is Unit Int ((Int×List FG) ⊕ Bool) (Sum.inr false) (st_law04_GroundContained_4 p0 p1 p2 (i,t)) (sp_law04_GroundContained_4 p0 p1 p2 (i,t)) (fun i _ => i) 0 t.length (fun _ _ => True) (fun _ _ => Sum.inr true) (by omega) (by omega) ?_ ?_ () trivial
    · rintro u -
      obtain ⟨o3,v3⟩ := l_con_3 p2 h hf (i,t) (t.length:Int)
      simp only [sp_law04_GroundContained_4,st_law04_GroundContained_4,List.forall_mem_cons,e4,show decide ((t.length:Int) < (t.length:Int)) = false from decide_eq_false (by omega),cond_false,v3]
      refine ⟨?_,trivial⟩
      and_intros
      all_goals first
        | (intro h; cases h; done)
        | (intro p hp; cases hp; done)
        | (intros; first | exact o3 | (simp only [List.length_nil]; omega))
    · rintro j u - hj -
      have hd1:decide ((j:Int) < (t.length:Int)) = true := decide_eq_true (by omega)
      have hw1:IntKind.i64.wrap ((j:Int) + 1) = ((j + 1:Nat):Int) := wrap_id (by omega) (by omega)
      have h0:0 < (v_expn p1 (v_mdls p0)).length := List.length_pos_iff.2 hne
      have hd2:decide (((v_expn p1 (v_mdls p0)).length:Int) > 0) = true := decide_eq_true (by omega)
      simp only [sp_law04_GroundContained_4,st_law04_GroundContained_4,List.forall_mem_cons,e1,e4,hd1,hd2,cond_true,Int.toNat_natCast,ht.all hne (show j < p0.length by omega),BEq.rfl,Bool.true_and,Bool.and_true,Bool.not_true,cond_false,hw1]
      refine ⟨?_,.inl ⟨(),trivial,trivial,trivial⟩⟩
      and_intros
      all_goals first
        | (intro p hp; cases hp; done)
        | (intro h; cases h; done)
        | (intros; omega)
theorem l_con_5 {p0:List (List Int×List Int)} {p1:List (Int×Int×Int)} (p2:Int) (h:CK p0 p1) (hf:v_few p0) :
    OkL (st_law04_GroundContained_5 p0 p1 p2) (sp_law04_GroundContained_5 p0 p1 p2) (0,List.replicate p0.length (false,false,false,false))∧lpv false (st_law04_GroundContained_5 p0 p1 p2) (0,List.replicate p0.length (false,false,false,false)) = true := by
  have e4:s_ref04_CopyData p1 = p1 := rfl
  have e1 := h.exin p1 h.cd
  have hl := h.d.len
  have hl4 := h.c.cne.len
  have hcnt := h.c.cnt
  have hnn := v_count_nn p0
  have hcn:((v_count p0).toNat:Int) = v_count p0 := by omega
  have lk1:lenOk (v_expn p1 (v_mdls p0)) := lenOk_le (h.elen _) (by decide)
  refine @for_is (List FG) (Int×List FG) Bool false (st_law04_GroundContained_5 p0 p1 p2) (sp_law04_GroundContained_5 p0 p1 p2) (fun i t => (i,t)) 0 (v_count p0).toNat (fun k t => HK p0 p1 k t) (fun _ _ => true) (by omega) (by omega) ?_ ?_ _ ⟨by simp,fun i hi => absurd hi (Nat.not_lt_zero _),fun i hi => absurd hi (Nat.not_lt_zero _),fun i hi => absurd hi (Nat.not_lt_zero _),fun i hi => absurd hi (Nat.not_lt_zero _)⟩
  · rintro t ht
    obtain ⟨o4,v4⟩ := l_con_4 p2 h hf ((v_count p0).toNat:Int) ht
    simp only [sp_law04_GroundContained_5,st_law04_GroundContained_5,List.forall_mem_cons,h.cof,show decide (((v_count p0).toNat:Int) < v_count p0) = false from decide_eq_false (by omega),cond_false,v4]
    refine ⟨?_,trivial⟩
    and_intros
    all_goals first
      | (intro h; cases h; done)
      | (intro p hp; cases hp; done)
      | (intros; exact o4)
  · rintro k t - hk ht
    have hk' : (k:Int) < v_count p0 := by omega
    have hd1:decide ((k:Int) < v_count p0) = true := decide_eq_true hk'
    have e5 := h.mof (k := (k:Int)) (by omega) hk'
    have e6 := h.expls (k := (k:Int)) (by omega) p1 h.cd
    have hml:(v_mdl p0 k).length = p0.length := v_mod_len p0 k
    have key:∃ t',(OkL (st_law04_GroundContained_0 p0 p1 p2 ((k:Int),t)) (sp_law04_GroundContained_0 p0 p1 p2 ((k:Int),t)) (0,t)∧lpv (Sum.inr false) (st_law04_GroundContained_0 p0 p1 p2 ((k:Int),t)) (0,t) = Sum.inl (((k + 1:Nat):Int),t'))∧HK p0 p1 (k + 1) t' := by
      cases hx:v_exAll (v_mdl p0 k) p1
      · exact ⟨t,l_con_0f p2 h hk' hx,ht.skip hx⟩
      · exact ⟨_,l_con_0 p2 h hk' ht.len hx,ht.next⟩
    obtain ⟨t',⟨o0,v0⟩,ht'⟩ := key
    have hhas:v_has (v_expn p1 (v_mdls p0)) (k:Int) = v_exAll (v_mdl p0 k) p1 := by
      unfold v_has
      cases hx:v_exAll (v_mdl p0 k) p1
      · exact decide_eq_false (fun hm => by have := (v_expn_iff.1 hm).2; rw [hx] at this; cases this)
      · exact decide_eq_true (v_expn_iff.2 ⟨⟨by omega,hk'⟩,hx⟩)
    simp only [sp_law04_GroundContained_5,st_law04_GroundContained_5,List.forall_mem_cons,h.cof,hd1,cond_true,e5,List.nil_append,e4,e6,e1,hhas,hml,BEq.rfl,bne_self_eq_false,Bool.not_true,cond_false,v0]
    refine ⟨?_,.inl ⟨t',rfl,ht',trivial⟩⟩
    and_intros
    all_goals first
      | (intro p hp; cases hp; done)
      | (intro h; cases h; done)
      | (intros; first | exact lk1 | exact o0 | exact hf | omega | (simp only [List.length_nil]; omega))
/-- The plain law. -/
theorem plain_law04_GroundContained (p0:List (List Int×List Int)) (p1:List (Int×Int×Int)) (p2:Int) (_:okPs P_law04_GroundContained (p0,p1,p2)):(∀ p∈pre_law04_GroundContained p0 p1 p2,p)∧s_law04_GroundContained p0 p1 p2 = true := by
  unfold pre_law04_GroundContained s_law04_GroundContained
  simp only [List.forall_mem_cons,List.length_nil]
  have e4:s_ref04_CopyData p1 = p1 := rfl
  rw [e4]
  cases hF:v_fewb p0
  · simp
  obtain ⟨hl6,hf⟩ := tx_few hF
  cases hL:v_light p0
  · simp [hf]
  rcases int0 (v_cc p0).2 with ⟨z,e,_⟩ | ⟨z,e,_⟩
  rotate_left
  · rw [e]; simp [hf]
  cases h8:s_law04_fewData p1
  · rw [e]; simp [hf]
  rcases int0 (v_cd p1).2 with ⟨y,f,_⟩ | ⟨y,f,_⟩
  rotate_left
  · rw [e,f]; simp [hf]
  have hc := tx_cc_ok hf z
  have h:CK p0 p1 := ⟨z,hc,v_cd_iff.1 y,by unfold v_light at hL; rw [e,cond_false] at hL; exact of_decide_eq_true hL⟩
  have hl := h.d.len
  have hl4 := h.c.cne.len
  have hm := h.m
  obtain ⟨o5,v5⟩ := l_con_5 p2 h hf
  have h0:0 < p0.length := List.length_pos_iff.2 hc.ne
  rw [e,f,h.exin p1 y,h.cof,h.rof]
  simp only [Int.toNat_natCast,v5]
  by_cases hne:v_expn p1 (v_mdls p0) = []
  · rw [hne]
    have er:v_rngs p0 [] [] = [] := rfl
    rw [er]
    simp [hf,hl6,hm,o5]
    omega
  · have hrl:(v_rngs p0 [] (v_expn p1 (v_mdls p0))).length = p0.length := v_rngs_len p0 _ [] (.inl rfl) (.inl hne)
    have hel:0 < (v_expn p1 (v_mdls p0)).length := List.length_pos_iff.2 hne
    rw [hrl]
    simp [hf,hl6,hm,o5,hne,h0]
    omega

theorem own:ownKnob Try.prog.godebug = none := by kernel_rfl
theorem laidOut:laidOutB Try.prog = true := by kernel_rfl
theorem hfn8:Try.prog.funcs[8]? = some (fnOf Try.prog 8) := by kernel_rfl
theorem hps8:(fnOf Try.prog 8).params.size = 3 := by kernel_rfl
theorem lifted_GroundContained (os:Os) (started:os.Started) (H:Type) (enc:TypeId×Value→H) :
    ReturnsInHanded {} Try.checked os 8 .any (Rows.groundContainedSpec.pre6 enc Try.prog (fnOf Try.prog 8) [] false) (Rows.groundContainedSpec.post enc Try.prog (fnOf Try.prog 8) false true false false) :=
  said_of (C := Try.checked) (ss := P_law04_GroundContained.map shP) own started (by kernel_rfl) hfn8
    (ChangeSpec.witness6 (enc := enc) (C := Try.checked) false ⟨#[],zeroArgs P_law04_GroundContained,[]⟩ 8 (by kernel_rfl) (by kernel_rfl) (by kernel_rfl) (by kernel_rfl)) rfl
    (fun ds h => by
      rw [hps8] at h
      match ds,h with
      | [_,_,_],_ => rfl)
    laidOut (by kernel_rfl) (rt := (fnOf Try.prog 8).resultTypes.getD 0 0) (by kernel_rfl) (by kernel_rfl) (by kernel_rfl)
    (law_of ok_law04_GroundContained fun x hx => ⟨(plain_law04_GroundContained x.1 x.2.1 x.2.2 hx).1,congrArg (fun b => V.p (.bool b)) (plain_law04_GroundContained x.1 x.2.1 x.2.2 hx).2⟩) (fun _ => rfl)
theorem GroundContained_holds:Rows.GroundContainedSaid :=
  OpenClaim.holds_of_wide 8 (fnOf Try.prog 8) rfl rfl rfl rfl rfl rfl rfl ⟨rfl,rfl,rfl,rfl,rfl⟩ rfl rfl rfl rfl rfl (by kernel_rfl) hfn8 (by kernel_rfl)
    (of_decide_eq_true (by kernel_rfl)) (by unfold Func.isWrapper; first | (rw [if_pos (by decide +kernel)]; kernel_rfl) | (rw [if_neg (by decide +kernel)]; exact ⟨rfl,rfl⟩))
    (fun os started H enc _ => lifted_GroundContained os started H enc)
end Go.Proofs.Ytehblgccaiiikaa
