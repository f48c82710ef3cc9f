/- MagnetInside: the given statement is proved: at every input the law returns true, and the input reads as it did. No condition. -/
import Derived.Test.YtdkhhafmidokmaaWalkMagnetInside
import Derived.Test.YtdkhhafmidokmaaLayB
import Derived.Test.YtdkhhafmidokmaaMxU
import Derived.Test.YtdkhhafmidokmaaRows
import Derived.ProofKit
namespace Go.Proofs.Ytdkhhafmidokmaa
open Go Go.Mx
set_option maxRecDepth 100000
/-- Ranges that are apart,in order. -/
structure v_ap (o:gC):Prop where
  lo:∀ k,k < o.length→(o.getD k (0,0)).1≤(o.getD k (0,0)).2
  gap:∀ k,k + 1 < o.length→(o.getD k (0,0)).2 + 1 < (o.getD (k + 1) (0,0)).1
theorem gd_snoc {o:List (Int×Int)} {x:Int×Int} {k:Nat}:(o ++ [x]).getD k (0,0) = if k < o.length then o.getD k (0,0) else if k = o.length then x else (0,0) := by
  rw [List.getD_eq_getElem?_getD,List.getD_eq_getElem?_getD]
  rcases Nat.lt_trichotomy k o.length with g | g | g
  · rw [if_pos g,List.getElem?_append_left g]
  · subst g; rw [if_neg (by omega),if_pos rfl,List.getElem?_append_right (Nat.le_refl _),Nat.sub_self]; rfl
  · rw [if_neg (by omega),if_neg (by omega),List.getElem?_append_right (by omega),List.getElem?_eq_none (by simp; omega)]; rfl
theorem v_mg_ap {o:List (Int×Int)} {x:Int×Int} (h:v_ap o) (hx:x.1≤x.2):v_ap (v_mg o x) := by
  unfold v_mg
  cases c:cond (decide ((o.length:Int) > 0)) (decide (x.1≤(o.getD (o.length - 1) (0,0)).2 + 1)) false
  · have hc:0 < o.length→(o.getD (o.length - 1) (0,0)).2 + 1 < x.1 := fun h0 => by
      rw [decide_eq_true (show (o.length:Int) > 0 by omega)] at c
      have := of_decide_eq_false c; omega
    refine ⟨fun k hk => ?_,fun k hk => ?_⟩
    · rw [cond_false] at hk ⊢
      rw [List.length_append,List.length_singleton] at hk
      rw [gd_snoc]
      split
      · exact h.lo k (by assumption)
      · rw [if_pos (by omega)]; exact hx
    · rw [cond_false] at hk ⊢
      rw [List.length_append,List.length_singleton] at hk
      rw [gd_snoc,gd_snoc,if_pos (by omega)]
      split
      · exact h.gap k (by assumption)
      · rw [if_pos (by omega)]
        have := hc (by omega)
        rw [show o.length - 1 = k by omega] at this; exact this
  · have h0:0 < o.length := by
      cases d:decide ((o.length:Int) > 0) <;> rw [d] at c
      · cases c
      · have := of_decide_eq_true d; omega
    have hlast := h.lo (o.length - 1) (by omega)
    refine ⟨fun k hk => ?_,fun k hk => ?_⟩
    · rw [cond_true] at hk ⊢
      rw [List.length_set] at hk
      rw [gd_set (by omega)]
      split
      · simp only; omega
      · exact h.lo k hk
    · rw [cond_true] at hk ⊢
      rw [List.length_set] at hk
      have g := h.gap k hk
      rw [gd_set (by omega),gd_set (by omega),if_neg (by omega)]
      split
      · rename_i e; rw [← e]; exact g
      · exact g
theorem v_fold_ap:∀ (l o:gC),(∀ x∈l,x.1≤x.2)→v_ap o→v_ap (l.foldl v_mg o)
  | [],_,_,h => h
  | x :: l,o,h,ho => v_fold_ap l (v_mg o x) (fun y hy => h y (List.mem_cons_of_mem _ hy)) (v_mg_ap ho (h x List.mem_cons_self))
theorem v_bok_lt {b:Int×List (Int×Int)} (h:v_bok b) {i:Nat}:∀ k,i < k→k < b.2.length→(b.2.getD i (0,0)).1 < (b.2.getD k (0,0)).1
  | 0,hk,_ => by omega
  | k + 1,hk,hj => by
    have g := h.asc (k + 1) (by omega) hj
    rw [Nat.add_sub_cancel] at g
    rcases Nat.lt_or_ge i k with e | e
    · have := v_bok_lt h k e (by omega); omega
    · obtain rfl:i = k := by omega
      exact g
theorem v_row_lt {b:Int×List (Int×Int)} (h:v_bok b) (r:gG) {i:Nat}:∀ m,i + 1 + m≤b.2.length→∀ x∈v_row b r i m,x.1 < x.2
  | 0,_,_,hx => by cases hx
  | m + 1,hm,x,hx => by
    unfold v_row at hx
    rcases List.mem_append.1 hx with g | g
    · exact v_row_lt h r m (by omega) x g
    · cases c:v_pr b r i (i + 1 + m) <;> rw [c] at g
      · cases g
      · obtain rfl := List.mem_singleton.1 g
        exact v_bok_lt h (i + 1 + m) (by omega) (by omega)
theorem v_all_lt {b:Int×List (Int×Int)} (h:v_bok b) (r:gG):∀ i,i≤b.2.length→∀ x∈v_all b r i,x.1 < x.2
  | 0,_,_,hx => by cases hx
  | i + 1,hi,x,hx => by
    unfold v_all at hx
    rcases List.mem_append.1 hx with g | g
    · exact v_all_lt h r i (by omega) x g
    · exact v_row_lt h r _ (by omega) x g
theorem v_strm_ap {b:Int×List (Int×Int)} (h:v_bok b) (r:gG):v_ap (v_strm b r) := v_fold_ap _ _ (fun x hx => by have := v_all_lt h r _ (Nat.le_refl _) x hx; omega) ⟨fun k hk => (by cases hk),fun k hk => (by cases hk)⟩
theorem v_hit_iff {o:List (Int×Int)} {t:Int}:v_hit o t = true ↔ ∃ k,k < o.length∧(o.getD k (0,0)).1≤t∧t≤(o.getD k (0,0)).2 := by
  unfold v_hit
  rw [List.any_eq_true]
  constructor
  · rintro ⟨x,hx,h⟩
    obtain ⟨k,hk,rfl⟩ := List.getElem_of_mem hx
    exact ⟨k,hk,by rw [gd_get (0,0) hk]; exact tx_within.1 h⟩
  · rintro ⟨k,hk,h⟩
    exact ⟨_,getD_mem' (0,0) hk,tx_within.2 h⟩
theorem v_hit_mg {o:List (Int×Int)} {x:Int×Int} {t:Int} (h:v_ap o) (hs:∀ y∈o,y.1≤x.1):v_hit (v_mg o x) t = true ↔ v_hit o t = true ∨ (x.1≤t∧t≤x.2) := by
  unfold v_mg
  cases c:cond (decide ((o.length:Int) > 0)) (decide (x.1≤(o.getD (o.length - 1) (0,0)).2 + 1)) false
  · rw [cond_false]
    unfold v_hit
    rw [List.any_append,Bool.or_eq_true]
    simp only [List.any_cons,List.any_nil,Bool.or_false]
    exact or_congr_right tx_within
  · have h0:0 < o.length∧x.1≤(o.getD (o.length - 1) (0,0)).2 + 1 := by
      cases d:decide ((o.length:Int) > 0) <;> rw [d] at c
      · cases c
      · have := of_decide_eq_true d
        exact ⟨by omega,of_decide_eq_true c⟩
    have hlo := hs _ (getD_mem' (0,0) (show o.length - 1 < o.length by omega))
    have hll := h.lo (o.length - 1) (by omega)
    rw [cond_true,v_hit_iff,v_hit_iff]
    simp only [List.length_set]
    constructor
    · rintro ⟨k,hk,g⟩
      rw [gd_set (by omega)] at g
      split at g
      · rename_i e
        simp only at g
        rcases Int.lt_or_le (o.getD (o.length - 1) (0,0)).2 t with q | q
        · exact .inr (by omega)
        · exact .inl ⟨o.length - 1,by omega,by omega⟩
      · exact .inl ⟨k,hk,g⟩
    · rintro (⟨k,hk,g⟩ | g)
      · refine ⟨k,hk,?_⟩
        rw [gd_set (by omega)]
        split
        · rename_i e; subst e; simp only; omega
        · exact g
      · refine ⟨o.length - 1,by omega,?_⟩
        rw [gd_set (by omega),if_pos rfl]
        simp only; omega
theorem v_mg_le {o:List (Int×Int)} {x:Int×Int} {c:Int} (hs:∀ y∈o,y.1≤c) (hx:x.1≤c):∀ y∈v_mg o x,y.1≤c := by
  unfold v_mg
  cases d:cond (decide ((o.length:Int) > 0)) (decide (x.1≤(o.getD (o.length - 1) (0,0)).2 + 1)) false
  · intro y hy
    rcases List.mem_append.1 hy with g | g
    · exact hs y g
    · obtain rfl := List.mem_singleton.1 g; exact hx
  · have h0:0 < o.length := by
      cases e:decide ((o.length:Int) > 0) <;> rw [e] at d
      · cases d
      · have := of_decide_eq_true e; omega
    intro y hy
    rcases List.mem_or_eq_of_mem_set hy with g | g
    · exact hs y g
    · subst g
      exact hs (o.getD (o.length - 1) (0,0)) (getD_mem' (0,0) (show o.length - 1 < o.length by omega))
theorem v_fold_hit {t:Int}:∀ (l o:gC),l.Pairwise (fun a b => a.1≤b.1)→(∀ x∈l,x.1≤x.2)→(∀ y∈o,∀ x∈l,y.1≤x.1)→v_ap o→(v_hit (l.foldl v_mg o) t = true ↔ v_hit o t = true ∨ ∃ x∈l,x.1≤t∧t≤x.2)
  | [],o,_,_,_,_ => by simp
  | x :: l,o,hp,hl,ho,ha => by
    obtain ⟨p1,p2⟩ := List.pairwise_cons.1 hp
    have hx := hl x List.mem_cons_self
    have ih := v_fold_hit (t := t) l (v_mg o x) p2 (fun y hy => hl y (List.mem_cons_of_mem _ hy)) (fun y hy z hz => v_mg_le (c := z.1) (fun w hw => ho w hw z (List.mem_cons_of_mem _ hz)) (p1 z hz) y hy) (v_mg_ap ha hx)
    rw [List.foldl_cons,ih,v_hit_mg ha (fun y hy => ho y hy x List.mem_cons_self)]
    simp only [List.mem_cons,exists_eq_or_imp,or_assoc]
/-- All pairs: in the order of their beginnings; what is a pair. -/
theorem v_row_mem {b:Int×List (Int×Int)} {r:Int×Int} {i:Nat} {x:Int×Int}:∀ m,x∈v_row b r i m ↔ ∃ j,j < m∧v_pr b r i (i + 1 + j) = true∧x = ((b.2.getD i (0,0)).1,(b.2.getD (i + 1 + j) (0,0)).1)
  | 0 => by simp [v_row]
  | m + 1 => by
    unfold v_row
    rw [List.mem_append,v_row_mem m]
    constructor
    · rintro (⟨j,hj,g⟩ | g)
      · exact ⟨j,by omega,g⟩
      · cases c:v_pr b r i (i + 1 + m) <;> rw [c] at g
        · cases g
        · exact ⟨m,by omega,c,List.mem_singleton.1 g⟩
    · rintro ⟨j,hj,h1,h2⟩
      rcases Nat.lt_or_ge j m with g | g
      · exact .inl ⟨j,g,h1,h2⟩
      · obtain rfl:j = m := by omega
        rw [h1]; exact .inr (List.mem_singleton.2 h2)
theorem v_all_mem {b:Int×List (Int×Int)} {r:Int×Int} {x:Int×Int}:∀ n,n≤b.2.length→(x∈v_all b r n ↔ ∃ i k,i < n∧i < k∧k < b.2.length∧v_pr b r i k = true∧x = ((b.2.getD i (0,0)).1,(b.2.getD k (0,0)).1))
  | 0,_ => by simp [v_all]
  | n + 1,hn => by
    unfold v_all
    rw [List.mem_append,v_all_mem n (by omega),v_row_mem]
    constructor
    · rintro (⟨i,k,h1,h2⟩ | ⟨j,hj,h1,h2⟩)
      · exact ⟨i,k,by omega,h2⟩
      · exact ⟨n,n + 1 + j,by omega,by omega,by omega,h1,h2⟩
    · rintro ⟨i,k,h1,h2,h3,h4,h5⟩
      rcases Nat.lt_or_ge i n with g | g
      · exact .inl ⟨i,k,g,h2,h3,h4,h5⟩
      · obtain rfl:i = n := by omega
        refine .inr ⟨k - (i + 1),by omega,?_⟩
        rw [show i + 1 + (k - (i + 1)) = k by omega]
        exact ⟨h4,h5⟩
theorem v_row_asc {b:Int×List (Int×Int)} {r:Int×Int} {i:Nat}:∀ m,(v_row b r i m).Pairwise (fun x y => x.1≤y.1)
  | 0 => List.Pairwise.nil
  | m + 1 => by
    unfold v_row
    refine List.pairwise_append.2 ⟨v_row_asc m,?_,fun x hx y hy => ?_⟩
    · cases v_pr b r i (i + 1 + m)
      · exact List.Pairwise.nil
      · exact List.pairwise_singleton _ _
    · obtain ⟨_,_,_,e⟩ := (v_row_mem m).1 hx
      cases c:v_pr b r i (i + 1 + m) <;> rw [c] at hy
      · cases hy
      · obtain rfl := List.mem_singleton.1 hy
        rw [e]; exact Int.le_refl _
theorem v_all_asc {b:Int×List (Int×Int)} (h:v_bok b) {r:Int×Int}:∀ n,n≤b.2.length→(v_all b r n).Pairwise (fun x y => x.1≤y.1)
  | 0,_ => List.Pairwise.nil
  | n + 1,hn => by
    unfold v_all
    refine List.pairwise_append.2 ⟨v_all_asc h n (by omega),v_row_asc _,fun x hx y hy => ?_⟩
    obtain ⟨i,k,h1,_,_,_,e⟩ := (v_all_mem n (by omega)).1 hx
    obtain ⟨j,_,_,e2⟩ := (v_row_mem _).1 hy
    have := v_bok_lt h n h1 (by omega)
    rw [e,e2]; simp only; omega
/-- A tick is in a storm exactly when it is in a pair. -/
theorem v_cov {b:Int×List (Int×Int)} (h:v_bok b) {r:Int×Int} {t:Int}:v_hit (v_strm b r) t = true ↔ ∃ i k,i < k∧k < b.2.length∧v_pr b r i k = true∧(b.2.getD i (0,0)).1≤t∧t≤(b.2.getD k (0,0)).1 := by
  unfold v_strm
  rw [v_fold_hit _ [] (v_all_asc h _ (Nat.le_refl _)) (fun x hx => by have := v_all_lt h r _ (Nat.le_refl _) x hx; omega) (fun y hy => by cases hy) ⟨fun k hk => (by cases hk),fun k hk => (by cases hk)⟩]
  constructor
  · rintro (g | ⟨x,hx,g⟩)
    · simp [v_hit] at g
    · obtain ⟨i,k,h1,h2,h3,h4,rfl⟩ := (v_all_mem _ (Nat.le_refl _)).1 hx
      exact ⟨i,k,h2,h3,h4,g⟩
  · rintro ⟨i,k,h2,h3,h4,g⟩
    exact .inr ⟨_,(v_all_mem _ (Nat.le_refl _)).2 ⟨i,k,by omega,h2,h3,h4,rfl⟩,g⟩
theorem v_mg_ends {P Q:Int→Prop} {o:List (Int×Int)} {x:Int×Int} (ho:∀ y∈o,P y.1∧Q y.2) (hx:P x.1∧Q x.2):∀ y∈v_mg o x,P y.1∧Q y.2 := by
  unfold v_mg
  cases d:cond (decide ((o.length:Int) > 0)) (decide (x.1≤(o.getD (o.length - 1) (0,0)).2 + 1)) false
  · intro y hy
    rcases List.mem_append.1 hy with g | g
    · exact ho y g
    · obtain rfl := List.mem_singleton.1 g; exact hx
  · have h0:0 < o.length := by
      cases e:decide ((o.length:Int) > 0) <;> rw [e] at d
      · cases d
      · have := of_decide_eq_true e; omega
    intro y hy
    rcases List.mem_or_eq_of_mem_set hy with g | g
    · exact ho y g
    · subst g
      have := ho (o.getD (o.length - 1) (0,0)) (getD_mem' (0,0) (show o.length - 1 < o.length by omega))
      refine ⟨this.1,?_⟩
      simp only
      rcases Int.le_total (o.getD (o.length - 1) (0,0)).2 x.2 with g | g
      · rw [Int.max_eq_right g]; exact hx.2
      · rw [Int.max_eq_left g]; exact this.2
theorem v_fold_ends {P Q:Int→Prop}:∀ (l o:gC),(∀ x∈l,P x.1∧Q x.2)→(∀ y∈o,P y.1∧Q y.2)→∀ y∈l.foldl v_mg o,P y.1∧Q y.2
  | [],_,_,h => h
  | x :: l,o,hl,ho => v_fold_ends l (v_mg o x) (fun y hy => hl y (List.mem_cons_of_mem _ hy)) (v_mg_ends ho (hl x List.mem_cons_self))
/-- Ends of storms are ends of pairs. -/
theorem v_ends {b:Int×List (Int×Int)} {r:Int×Int}:∀ x∈v_strm b r,(∃ i k,i < k∧k < b.2.length∧v_pr b r i k = true∧x.1 = (b.2.getD i (0,0)).1)∧∃ i k,i < k∧k < b.2.length∧v_pr b r i k = true∧x.2 = (b.2.getD k (0,0)).1 := by
  unfold v_strm
  refine v_fold_ends (P := fun t => ∃ i k,i < k∧k < b.2.length∧v_pr b r i k = true∧t = (b.2.getD i (0,0)).1) (Q := fun t => ∃ i k,i < k∧k < b.2.length∧v_pr b r i k = true∧t = (b.2.getD k (0,0)).1) _ _ (fun x hx => ?_) (fun y hy => by cases hy)
  obtain ⟨i,k,_,h2,h3,h4,rfl⟩ := (v_all_mem _ (Nat.le_refl _)).1 hx
  exact ⟨⟨i,k,h2,h3,h4,rfl⟩,i,k,h2,h3,h4,rfl⟩
theorem v_pr_iff {b:Int×List (Int×Int)} {r:Int×Int} {i k:Nat}:v_pr b r i k = true ↔ (b.2.getD k (0,0)).1 - (b.2.getD i (0,0)).1≤r.2∧¬ (-r.1≤(b.2.getD k (0,0)).2 - (b.2.getD i (0,0)).2∧(b.2.getD k (0,0)).2 - (b.2.getD i (0,0)).2≤r.1) := by
  unfold v_pr
  cases c:decide ((b.2.getD k (0,0)).1 - (b.2.getD i (0,0)).1≤r.2)
  · have := of_decide_eq_false c
    simp only [cond_false,Bool.false_eq_true,false_iff]
    exact fun h => this h.1
  · have h1 := of_decide_eq_true c
    rw [cond_true,Bool.not_eq_true',← Bool.not_eq_true,tx_within]
    exact ⟨fun h => ⟨h1,h⟩,fun h => h.2⟩
theorem v_sp_iff {b:Int×List (Int×Int)} {r:Int×Int} {t:Int} {i k:Nat}:v_sp b r t i k = true ↔ (b.2.getD i (0,0)).1 = t∧max ((b.2.getD i (0,0)).1 - (b.2.getD k (0,0)).1) (0 - ((b.2.getD i (0,0)).1 - (b.2.getD k (0,0)).1))≤r.2∧r.1 < max ((b.2.getD i (0,0)).2 - (b.2.getD k (0,0)).2) (0 - ((b.2.getD i (0,0)).2 - (b.2.getD k (0,0)).2)) := by
  unfold v_sp
  cases c:((b.2.getD i (0,0)).1 == t)
  · simp only [cond_false,Bool.false_eq_true,false_iff]
    exact fun h => by rw [h.1,beq_self_eq_true] at c; cases c
  · have e := eq_of_beq c
    rw [cond_true]
    cases d:decide (max ((b.2.getD i (0,0)).1 - (b.2.getD k (0,0)).1) (0 - ((b.2.getD i (0,0)).1 - (b.2.getD k (0,0)).1))≤r.2)
    · have := of_decide_eq_false d
      simp only [cond_false,Bool.false_eq_true,false_iff]
      exact fun h => this h.2.1
    · have h2 := of_decide_eq_true d
      rw [cond_true,decide_eq_true_eq]
      exact ⟨fun h => ⟨e,h2,h⟩,fun h => h.2.2⟩
theorem v_sty_pr {b:Int×List (Int×Int)} (h:v_bok b) {r:Int×Int} {i k:Nat} (hik:i < k) (hk:k < b.2.length) (hp:v_pr b r i k = true):v_sty b r (b.2.getD i (0,0)).1 = true∧v_sty b r (b.2.getD k (0,0)).1 = true := by
  obtain ⟨p1,p2⟩ := v_pr_iff.1 hp
  have lt := v_bok_lt h k hik hk
  unfold v_sty
  refine ⟨List.any_eq_true.2 ⟨i,List.mem_range'.2 ⟨i,by omega,by omega⟩,List.any_eq_true.2 ⟨k,List.mem_range'.2 ⟨k,by omega,by omega⟩,v_sp_iff.2 ⟨rfl,by omega,by omega⟩⟩⟩,List.any_eq_true.2 ⟨k,List.mem_range'.2 ⟨k,by omega,by omega⟩,List.any_eq_true.2 ⟨i,List.mem_range'.2 ⟨i,by omega,by omega⟩,v_sp_iff.2 ⟨rfl,by omega,by omega⟩⟩⟩⟩
/-- A calmer rule makes fewer storms. -/
theorem v_pr_calm {b:Int×List (Int×Int)} {r s:Int×Int} {i k:Nat} (h1:r.1≤s.1) (h2:s.2≤r.2) (h:v_pr b s i k = true):v_pr b r i k = true := by
  have := v_pr_iff.1 h
  exact v_pr_iff.2 (by omega)
theorem v_hit_calm {b:Int×List (Int×Int)} (h:v_bok b) {r s:Int×Int} {t:Int} (h1:r.1≤s.1) (h2:s.2≤r.2) (hs:v_hit (v_strm b s) t = true):v_hit (v_strm b r) t = true := by
  obtain ⟨i,k,a,c,d,e⟩ := (v_cov h).1 hs
  exact (v_cov h).2 ⟨i,k,a,c,v_pr_calm h1 h2 d,e⟩
theorem v_strm_at {b:Int×List (Int×Int)} (h:v_bok b) {r:Int×Int}:∀ k,k < (v_strm b r).length→∃ i,k≤i∧i < b.2.length∧((v_strm b r).getD k (0,0)).1 = (b.2.getD i (0,0)).1
  | 0,hk => by
    obtain ⟨⟨i,j,h1,h2,_,e⟩,_⟩ := v_ends (r := r) _ (getD_mem' (0,0) hk)
    exact ⟨i,Nat.zero_le _,by omega,e⟩
  | k + 1,hk => by
    obtain ⟨i,a1,a2,a3⟩ := v_strm_at h (r := r) k (by omega)
    obtain ⟨⟨j,m,h1,h2,_,e⟩,_⟩ := v_ends (r := r) _ (getD_mem' (0,0) hk)
    have g := (v_strm_ap h r).gap k hk
    have l := (v_strm_ap h r).lo k (by omega)
    refine ⟨j,?_,by omega,e⟩
    rcases Nat.lt_or_ge i j with q | q
    · omega
    · rcases Nat.lt_or_ge j i with q2 | q2
      · have := v_bok_lt h i q2 a2
        omega
      · obtain rfl:i = j := by omega
        omega
theorem v_strm_cnt {b:Int×List (Int×Int)} (h:v_bok b) (r:gG):(v_strm b r).length≤b.2.length := by
  rcases Nat.eq_zero_or_pos (v_strm b r).length with g | g
  · omega
  · obtain ⟨i,a1,a2,_⟩ := v_strm_at h (r := r) ((v_strm b r).length - 1) (by omega)
    omega
theorem v_sel_mono {p q:Nat→Bool} (hpq:∀ k,p k = true→q k = true):∀ l,(v_sel p l).length≤(v_sel q l).length
  | [] => Nat.le_refl _
  | k :: l => by
    have ih := v_sel_mono hpq l
    rw [v_sel_cons,v_sel_cons]
    cases c:p k
    · cases q k
      · exact ih
      · rw [cond_false,cond_true,List.length_cons]; omega
    · rw [hpq k c,cond_true,cond_true,List.length_cons,List.length_cons]; omega
theorem v_spl_calm {b:Int×List (Int×Int)} (h:v_bok b) {r s:Int×Int} {l:List (Int×Int×Int×Int×Int)} (h1:r.1≤s.1) (h2:s.2≤r.2):(v_spl (v_strm b s) l).length≤(v_spl (v_strm b r) l).length∧∀ x∈v_spl (v_strm b s) l,x∈v_spl (v_strm b r) l := by
  unfold v_spl
  refine ⟨v_sel_mono (fun k hk => v_hit_calm h h1 h2 hk) _,fun x hx => ?_⟩
  obtain ⟨i,a1,a2,a3⟩ := v_sel_mem.1 hx
  exact v_sel_mem.2 ⟨i,a1,v_hit_calm h h1 h2 a2,a3⟩
theorem v_spo_cases (b:Int×List (Int×Int)) (r:gG) (l:List (Int×Int×Int×Int×Int)):((v_cb b).2 ≠ 0∧v_spo b r l = ([],(v_cb b).2)) ∨ (v_cb b).2 = 0∧((v_rlerr r ≠ 0∧v_spo b r l = ([],v_rlerr r)) ∨ v_rlerr r = 0∧(((v_cs l).2 ≠ 0∧v_spo b r l = ([],(v_cs l).2)) ∨ ((v_cs l).2 = 0∧v_spo b r l = (v_spl (v_strm b r) l,0)))) := by
  unfold v_spo v_sperr
  rw [tx_first3]
  rcases int0 (v_cb b).2 with ⟨z1,e1,_⟩ | ⟨z1,e1,_⟩ <;> rw [e1]
  · refine .inr ⟨z1,?_⟩
    rcases int0 (v_rlerr r) with ⟨z2,e2,_⟩ | ⟨z2,e2,_⟩ <;> rw [e2]
    · refine .inr ⟨z2,?_⟩
      rcases int0 (v_cs l).2 with ⟨z3,e3,_⟩ | ⟨z3,e3,_⟩
      · exact .inr ⟨z3,by simp only [cond_false]; rw [e3]; rfl⟩
      · exact .inl ⟨z3,by simp only [cond_false]; rw [e3]; rfl⟩
    · exact .inl ⟨z2,by simp only [cond_true,cond_false]; rw [e2]; rfl⟩
  · exact .inl ⟨z1,by simp only [cond_true]; rw [e1]; rfl⟩
theorem v_mg_st {o:List (Int×Int)} {x:Int×Int} (ho:∀ y∈o,y.1 < y.2) (hx:x.1 < x.2):∀ y∈v_mg o x,y.1 < y.2 := by
  unfold v_mg
  cases d:cond (decide ((o.length:Int) > 0)) (decide (x.1≤(o.getD (o.length - 1) (0,0)).2 + 1)) false
  · intro y hy
    rcases List.mem_append.1 hy with g | g
    · exact ho y g
    · obtain rfl := List.mem_singleton.1 g; exact hx
  · have h0:0 < o.length := by
      cases e:decide ((o.length:Int) > 0) <;> rw [e] at d
      · cases d
      · have := of_decide_eq_true e; omega
    intro y hy
    rcases List.mem_or_eq_of_mem_set hy with g | g
    · exact ho y g
    · subst g
      have := ho (o.getD (o.length - 1) (0,0)) (getD_mem' (0,0) (show o.length - 1 < o.length by omega))
      simp only; omega
theorem v_fold_st:∀ (l o:gC),(∀ x∈l,x.1 < x.2)→(∀ y∈o,y.1 < y.2)→∀ y∈l.foldl v_mg o,y.1 < y.2
  | [],_,_,h => h
  | x :: l,o,hl,ho => v_fold_st l (v_mg o x) (fun y hy => hl y (List.mem_cons_of_mem _ hy)) (v_mg_st ho (hl x List.mem_cons_self))
theorem v_strm_st {b:Int×List (Int×Int)} (h:v_bok b) (r:gG):∀ y∈v_strm b r,y.1 < y.2 := v_fold_st _ _ (v_all_lt h r _ (Nat.le_refl _)) (fun y hy => by cases hy)
/-- What the law is about. -/
structure v_inw (p0:Int×List (Int×Int)) (p1:gG) (p2:List (Int×Int×Int×Int×Int)):Prop where
  b:(v_cb p0).2 = 0
  r:v_rlerr p1 = 0
  s:(v_cs p2).2 = 0
section
variable {p0:Int×List (Int×Int)} {p1:Int×Int} {p2:List (Int×Int×Int×Int×Int)} (W:v_inw p0 p1 p2)
include W
theorem i_sto:v_sto (p0.1,([]:List (Int×Int)) ++ p0.2) p1 = (v_strm p0 p1,0) := by
  show v_sto p0 p1 = _
  rcases v_sto_cases p0 p1 with ⟨h,_⟩ | ⟨_,⟨h,_⟩ | ⟨_,h⟩⟩
  · exact (h W.b).elim
  · exact (h W.r).elim
  · exact h
theorem i_spo (r:gG) (hr:v_rlerr r = 0):v_spo (p0.1,([]:List (Int×Int)) ++ p0.2) r (([]:List (Int×Int×Int×Int×Int)) ++ p2) = (v_spl (v_strm p0 r) p2,0) := by
  show v_spo p0 r p2 = _
  rcases v_spo_cases p0 r p2 with ⟨h,_⟩ | ⟨_,⟨h,_⟩ | ⟨_,⟨h,_⟩ | ⟨_,h⟩⟩⟩
  · exact (h W.b).elim
  · exact (h hr).elim
  · exact (h W.s).elim
  · exact h
omit W in
theorem v_rlerr_of {r:Int×Int} (h1:0≤r.1∧r.1≤200000) (h2:1≤r.2∧r.2≤1000000000000):v_rlerr r = 0 := by
  unfold v_rlerr
  rw [tx_within.2 h1,tx_within.2 h2]; rfl
theorem i_c1:v_rlerr (min 200000 (IntKind.i64.wrap (p1.1 + 3)),p1.2) = 0∧p1.1≤min 200000 (IntKind.i64.wrap (p1.1 + 3)) := by
  have h := v_rlerr_ok W.r
  have h1 := h.l
  have e:IntKind.i64.wrap (p1.1 + 3) = p1.1 + 3 := wrap_id (by omega) (by omega)
  rw [e]
  exact ⟨v_rlerr_of (by simp only; omega) h.w,by omega⟩
theorem i_c2:v_rlerr (p1.1,max 1 (IntKind.i64.wrap (p1.2 - 2))) = 0∧max 1 (IntKind.i64.wrap (p1.2 - 2))≤p1.2 := by
  have h := v_rlerr_ok W.r
  have h1 := h.w
  have e:IntKind.i64.wrap (p1.2 - 2) = p1.2 - 2 := wrap_id (by omega) (by omega)
  rw [e]
  exact ⟨v_rlerr_of h.l (by simp only; omega),by omega⟩
omit W in
theorem v_spl_len (S:gC) (l:List (Int×Int×Int×Int×Int)):(v_spl S l).length≤l.length := by
  have := v_sel_len (fun k => v_hit S (l.getD k (0,0,0,0,0)).1) (List.range l.length)
  rw [List.length_range] at this
  exact this
theorem i_1 (y2 y5 y11:Int):OkL (st_Z0_1 p0 p1 p2 y2 y5 y11) (sp_Z0_1 p0 p1 p2 y2 y5 y11) 0∧lpv (.inr (.inr (.inr false))) (st_Z0_1 p0 p1 p2 y2 y5 y11) 0 = .inr (.inr (.inr true)) := by
  have sl := (v_cs_iff.1 W.s).len
  have bok := v_cb_ok W.b
  have f1 := i_spo W p1 W.r
  obtain ⟨c1,c2⟩ := i_c2 W
  have f2 := i_spo W _ c1
  obtain ⟨k1,k2⟩ := v_spl_calm (l := p2) bok (r := p1) (s := (p1.1,max 1 (IntKind.i64.wrap (p1.2 - 2)))) (Int.le_refl _) c2
  have n1 := v_spl_len (v_strm p0 p1) p2
  generalize v_spl (v_strm p0 p1) p2 = A at *
  generalize v_spl (v_strm p0 (p1.1,max 1 (IntKind.i64.wrap (p1.2 - 2)))) p2 = B at *
  refine @for_is Unit Int (Int ⊕ (Int ⊕ (Int ⊕ Bool))) (.inr (.inr (.inr false))) (st_Z0_1 p0 p1 p2 y2 y5 y11) (sp_Z0_1 p0 p1 p2 y2 y5 y11) (fun i (_:Unit) => i) 0 B.length (fun _ _ => True) (fun _ _ => .inr (.inr (.inr true))) (by omega) (by omega) ?_ ?_ () trivial
  · intro t _
    simp only [sp_Z0_1,st_Z0_1,fM,f1,f2,decide_eq_false (Int.lt_irrefl (B.length:Int)),cond_false]
    refine ⟨?_,by first | rfl | trivial⟩
    and_intros
    all_goals first
      | (intro h; cases h; done)
      | (intro p hp; cases hp)
  · intro j t _ hj _
    have hw1:IntKind.i64.wrap ((j:Int) + 1) = ((j + 1:Nat):Int) := wrap_id (by omega) (by omega)
    have hd:decide ((j:Int) < (B.length:Int)) = true := decide_eq_true (by omega)
    have hm:v_has A (B.getD j 0) = true := decide_eq_true (k2 _ (getD_mem' 0 hj))
    simp only [sp_Z0_1,st_Z0_1,fM,f1,f2,hd,cond_true,Int.toNat_natCast,hm,Bool.not_true,cond_false,hw1]
    refine ⟨?_,.inl ⟨(),by first | rfl | trivial,trivial,by first | rfl | trivial⟩⟩
    and_intros
    all_goals first
      | (intro p hp; cases hp; done)
      | (intros; unfold lenOk; omega)
      | (intros; omega)
theorem i_2 (y2 y5:Int):OkL (st_Z0_2 p0 p1 p2 y2 y5) (sp_Z0_2 p0 p1 p2 y2 y5) 0∧lpv (.inr (.inr false)) (st_Z0_2 p0 p1 p2 y2 y5) 0 = .inr (.inr true) := by
  have sl := (v_cs_iff.1 W.s).len
  have bok := v_cb_ok W.b
  have bl := bok.len
  have f1 := i_spo W p1 W.r
  have q := i_1 W y2 y5
  obtain ⟨c1,c2⟩ := i_c1 W
  have f2 := i_spo W _ c1
  obtain ⟨k1,k2⟩ := v_spl_calm (l := p2) bok (r := p1) (s := (min 200000 (IntKind.i64.wrap (p1.1 + 3)),p1.2)) c2 (Int.le_refl _)
  obtain ⟨d1,d2⟩ := i_c2 W
  have f3 := i_spo W _ d1
  obtain ⟨k3,k4⟩ := v_spl_calm (l := p2) bok (r := p1) (s := (p1.1,max 1 (IntKind.i64.wrap (p1.2 - 2)))) (Int.le_refl _) d2
  have n1 := v_spl_len (v_strm p0 p1) p2
  generalize v_spl (v_strm p0 p1) p2 = A at *
  generalize v_spl (v_strm p0 (min 200000 (IntKind.i64.wrap (p1.1 + 3)),p1.2)) p2 = B at *
  generalize v_spl (v_strm p0 (p1.1,max 1 (IntKind.i64.wrap (p1.2 - 2)))) p2 = C at *
  have hlt:decide ((C.length:Int) > (A.length:Int)) = false := decide_eq_false (by omega)
  refine @for_is Unit Int (Int ⊕ (Int ⊕ Bool)) (.inr (.inr false)) (st_Z0_2 p0 p1 p2 y2 y5) (sp_Z0_2 p0 p1 p2 y2 y5) (fun i (_:Unit) => i) 0 B.length (fun _ _ => True) (fun _ _ => .inr (.inr true)) (by omega) (by omega) ?_ ?_ () trivial
  · intro t _
    obtain ⟨q1,q2⟩ := q B.length
    simp only [sp_Z0_2,st_Z0_2,fM,f1,f2,f3,decide_eq_false (Int.lt_irrefl (B.length:Int)),cond_false,hlt,bne_self_eq_false,q2]
    refine ⟨?_,by first | rfl | trivial⟩
    exact ⟨fun h => (by cases h),fun h => (by cases h),fun h => (by cases h),fun _ => (by simp only [List.length_nil]; omega),fun _ => (by simp),fun _ => (by simp only [List.length_nil]; omega),fun _ _ => q1,fun p hp => by cases hp⟩
  · intro j t _ hj _
    have hw1:IntKind.i64.wrap ((j:Int) + 1) = ((j + 1:Nat):Int) := wrap_id (by omega) (by omega)
    have hd:decide ((j:Int) < (B.length:Int)) = true := decide_eq_true (by omega)
    have hm:v_has A (B.getD j 0) = true := decide_eq_true (k2 _ (getD_mem' 0 hj))
    simp only [sp_Z0_2,st_Z0_2,fM,f1,f2,hd,cond_true,Int.toNat_natCast,hm,Bool.not_true,cond_false,hw1]
    refine ⟨?_,.inl ⟨(),by first | rfl | trivial,trivial,by first | rfl | trivial⟩⟩
    exact ⟨fun _ => (by omega),fun _ => (by omega),fun _ => (by unfold lenOk; omega),fun h => (by cases h),fun h => (by cases h),fun h => (by cases h),fun h => (by cases h),fun p hp => by cases hp⟩
theorem i_0 (y2:Int) (i:Nat) (hi:i < p2.length):OkL (st_Z0_0 p0 p1 p2 y2 i) (sp_Z0_0 p0 p1 p2 y2 i) (0,false)∧lpv (.inr (.inr false)) (st_Z0_0 p0 p1 p2 y2 i) (0,false) = .inl ((i + 1:Nat):Int) := by
  have sl := (v_cs_iff.1 W.s).len
  have bok := v_cb_ok W.b
  have bl := bok.len
  have f1 := i_spo W p1 W.r
  have f0 := i_sto W
  have n1 := v_spl_len (v_strm p0 p1) p2
  have sn := v_strm_cnt bok p1
  have hw0:IntKind.i64.wrap ((i:Int) + 1) = ((i + 1:Nat):Int) := wrap_id (by omega) (by omega)
  refine @for_is Bool (Int×Bool) (Int ⊕ (Int ⊕ Bool)) (.inr (.inr false)) (st_Z0_0 p0 p1 p2 y2 i) (sp_Z0_0 p0 p1 p2 y2 i) (fun i (t:Bool) => (i,t)) 0 (v_strm p0 p1).length (fun j t => t = true ↔ ∃ k,k < j∧((v_strm p0 p1).getD k (0,0)).1≤(p2.getD i (0,0,0,0,0)).1∧(p2.getD i (0,0,0,0,0)).1≤((v_strm p0 p1).getD k (0,0)).2) (fun _ _ => .inl ((i + 1:Nat):Int)) (by omega) (by omega) ?_ ?_ false (by constructor; (intro h; cases h); (rintro ⟨k,hk,_⟩; omega))
  · intro t ht
    have hb:(t == v_has (v_spl (v_strm p0 p1) p2) (i:Int)) = true := by
      rw [beq_iff_eq,Bool.eq_iff_iff,ht,v_has,decide_eq_true_eq]
      unfold v_spl
      rw [v_sel_mem]
      rw [← v_hit_iff]
      constructor
      · intro h; exact ⟨i,List.mem_range.2 hi,h,rfl⟩
      · rintro ⟨k,_,h,e⟩
        obtain rfl:i = k := by omega
        exact h
    simp only [sp_Z0_0,st_Z0_0,fM,f0,f1,decide_eq_false (Int.lt_irrefl ((v_strm p0 p1).length:Int)),cond_false,hb,Bool.not_true,hw0]
    refine ⟨?_,by first | rfl | trivial⟩
    exact ⟨fun h => (by cases h),fun h => (by cases h),fun h => (by cases h),fun h => (by cases h),fun _ => (by unfold lenOk; omega),fun p hp => by cases hp⟩
  · intro j t _ hj ht
    have hw1:IntKind.i64.wrap ((j:Int) + 1) = ((j + 1:Nat):Int) := wrap_id (by omega) (by omega)
    have hd:decide ((j:Int) < ((v_strm p0 p1).length:Int)) = true := decide_eq_true (by omega)
    simp only [sp_Z0_0,st_Z0_0,fM,f0,f1,hd,cond_true,Int.toNat_natCast,hw1]
    refine ⟨?_,.inl ⟨_,rfl,?_,by first | rfl | trivial⟩⟩
    · exact ⟨fun _ _ => (by omega),fun _ _ => (by omega),fun _ _ => (by omega),fun _ _ => (by omega),fun h => (by cases h),fun p hp => by cases hp⟩
    · cases t
      · rw [cond_false,tx_within]
        have := fun h => (Bool.false_ne_true (ht.2 h))
        constructor
        · intro h; exact ⟨j,by omega,h⟩
        · rintro ⟨k,hk,h⟩
          rcases Nat.lt_or_ge k j with g | g
          · exact (this ⟨k,g,h⟩).elim
          · obtain rfl:k = j := by omega
            exact h
      · rw [cond_true]
        obtain ⟨k,hk,h⟩ := ht.1 rfl
        exact ⟨fun _ => ⟨k,by omega,h⟩,fun _ => rfl⟩
theorem i_3 (y2:Int):OkL (st_Z0_3 p0 p1 p2 y2) (sp_Z0_3 p0 p1 p2 y2) 0∧lpv (.inr false) (st_Z0_3 p0 p1 p2 y2) 0 = .inr true := by
  have sl := (v_cs_iff.1 W.s).len
  have bok := v_cb_ok W.b
  have bl := bok.len
  have f1 := i_spo W p1 W.r
  have q := i_2 W y2
  have q0 := i_0 W y2
  obtain ⟨c1,c2⟩ := i_c1 W
  have f2 := i_spo W _ c1
  obtain ⟨k1,k2⟩ := v_spl_calm (l := p2) bok (r := p1) (s := (min 200000 (IntKind.i64.wrap (p1.1 + 3)),p1.2)) c2 (Int.le_refl _)
  have hlt:decide (((v_spl (v_strm p0 (min 200000 (IntKind.i64.wrap (p1.1 + 3)),p1.2)) p2).length:Int) > ((v_spl (v_strm p0 p1) p2).length:Int)) = false := decide_eq_false (by omega)
  refine @for_is Unit Int (Int ⊕ Bool) (.inr false) (st_Z0_3 p0 p1 p2 y2) (sp_Z0_3 p0 p1 p2 y2) (fun i (_:Unit) => i) 0 p2.length (fun _ _ => True) (fun _ _ => .inr true) (by omega) (by omega) ?_ ?_ () trivial
  · intro t _
    obtain ⟨q1,q2⟩ := q p2.length
    simp only [sp_Z0_3,st_Z0_3,fM,f1,f2,decide_eq_false (Int.lt_irrefl (p2.length:Int)),cond_false,hlt,bne_self_eq_false,q2]
    refine ⟨?_,by first | rfl | trivial⟩
    exact ⟨fun h => (by cases h),fun _ => (by simp only [List.length_nil]; omega),fun _ => (by simp only [List.length_cons,List.length_nil]; omega),fun _ => (by simp only [List.length_nil]; omega),fun _ _ => q1,fun p hp => by cases hp⟩
  · intro j t _ hj _
    have hd:decide ((j:Int) < (p2.length:Int)) = true := decide_eq_true (by omega)
    obtain ⟨q1,q2⟩ := q0 j hj
    simp only [sp_Z0_3,st_Z0_3,fM,hd,cond_true,q2]
    refine ⟨?_,.inl ⟨(),by first | rfl | trivial,trivial,by first | rfl | trivial⟩⟩
    exact ⟨fun _ => q1,fun h => (by cases h),fun h => (by cases h),fun h => (by cases h),fun h => (by cases h),fun p hp => by cases hp⟩
theorem i_at {j:Nat} (hj:j < (v_strm p0 p1).length):((v_strm p0 p1).getD j (0,0)).1 < ((v_strm p0 p1).getD j (0,0)).2∧(0≤((v_strm p0 p1).getD j (0,0)).1∧((v_strm p0 p1).getD j (0,0)).2≤1000000000000)∧(0 < j→((v_strm p0 p1).getD (j - 1) (0,0)).2 + 1 < ((v_strm p0 p1).getD j (0,0)).1)∧v_sty p0 p1 ((v_strm p0 p1).getD j (0,0)).1 = true∧v_sty p0 p1 ((v_strm p0 p1).getD j (0,0)).2 = true := by
  have bok := v_cb_ok W.b
  obtain ⟨⟨i,k,h1,h2,h3,h4⟩,⟨i',k',h1',h2',h3',h4'⟩⟩ := v_ends (b := p0) (r := p1) _ (getD_mem' (0,0) hj)
  have a := bok.ok i (by omega)
  have b := bok.ok k' (by omega)
  have ap := v_strm_ap bok p1
  have l := v_strm_st bok p1 _ (getD_mem' (0,0) hj)
  refine ⟨l,by omega,fun h0 => ?_,?_,?_⟩
  · obtain ⟨m,rfl⟩ : ∃ m,j = m + 1 := ⟨j - 1,by omega⟩
    exact ap.gap m hj
  · rw [h4]; exact (v_sty_pr bok h1 h2 h3).1
  · rw [h4']; exact (v_sty_pr bok h1' h2' h3').2
theorem i_4:OkL (st_Z0_4 p0 p1 p2) (sp_Z0_4 p0 p1 p2) 0∧lpv false (st_Z0_4 p0 p1 p2) 0 = true := by
  have bok := v_cb_ok W.b
  have bl := bok.len
  have f0 := i_sto W
  have sn := v_strm_cnt bok p1
  have q := i_3 W
  have at' := fun j hj => i_at W (j := j) hj
  have ok1:v_bok p0∧v_rlok p1 := ⟨bok,v_rlerr_ok W.r⟩
  refine @for_is Unit Int Bool false (st_Z0_4 p0 p1 p2) (sp_Z0_4 p0 p1 p2) (fun i (_:Unit) => i) 0 (v_strm p0 p1).length (fun _ _ => True) (fun _ _ => true) (by omega) (by omega) ?_ ?_ () trivial
  · intro t _
    obtain ⟨q1,q2⟩ := q (v_strm p0 p1).length
    simp only [sp_Z0_4,st_Z0_4,fM,f0,decide_eq_false (Int.lt_irrefl ((v_strm p0 p1).length:Int)),cond_false,q2]
    refine ⟨?_,by first | rfl | trivial⟩
    repeat' refine And.intro ?_ ?_
    all_goals first
      | (intro h; cases h; done)
      | (intro p hp; cases hp; done)
      | (exact fun _ => q1)
  · intro j t _ hj _
    have hw1:IntKind.i64.wrap ((j:Int) + 1) = ((j + 1:Nat):Int) := wrap_id (by omega) (by omega)
    have hw2:IntKind.i64.wrap ((j:Int) - 1) = (j:Int) - 1 := wrap_id (by omega) (by omega)
    have hd:decide ((j:Int) < ((v_strm p0 p1).length:Int)) = true := decide_eq_true (by omega)
    obtain ⟨a1,a2,a3,a4,a5⟩ := at' j hj
    have n1:((j:Int) - 1).toNat = j - 1 := by omega
    simp only [sp_Z0_4,st_Z0_4,fM,f0,hd,cond_true,hw1,hw2,n1,Int.toNat_natCast,a4,a5]
    rcases Nat.eq_zero_or_pos j with z | z
    · subst z
      generalize (v_strm p0 p1).getD 0 (0,0) = x at *
      generalize ((v_strm p0 p1).getD (0 - 1) (0,0)).2 = y at *
      have d1:decide (x.1 ≥ x.2) = false := decide_eq_false (by omega)
      simp [d1,sn,ok1]
      omega
    · have g := a3 z
      have l1 := at' (j - 1) (by omega)
      have d2:decide ((j:Int) > 0) = true := decide_eq_true (by omega)
      generalize (v_strm p0 p1).getD j (0,0) = x at *
      generalize hy:((v_strm p0 p1).getD (j - 1) (0,0)).2 = y at *
      have d1:decide (x.1 ≥ x.2) = false := decide_eq_false (by omega)
      have d3:decide (y > 1000000000000) = false := decide_eq_false (by omega)
      have hwy:IntKind.i64.wrap (y + 1) = y + 1 := wrap_id (by omega) (by omega)
      have d4:decide (x.1≤y + 1) = false := decide_eq_false (by omega)
      simp [d1,d2,d3,d4,hwy,sn,ok1]
      omega
end
/-- The plain law. -/
theorem plain_Z0 (p0:Int×List (Int×Int)) (p1:gG) (p2:List (Int×Int×Int×Int×Int)) (_:okPs P_Z0 (p0,p1,p2)):(∀ p∈pre_Z0 p0 p1 p2,p)∧s_Z0 p0 p1 p2 = true := by
  unfold pre_Z0 s_Z0
  simp only [fM]
  by_cases g1:(p0.2.length:Int)≤22
  rotate_left
  · rw [decide_eq_false g1]; simp
  by_cases g2:(p2.length:Int)≤22
  rotate_left
  · rw [decide_eq_false g2]; simp
  rw [decide_eq_true g1,decide_eq_true g2]
  rcases int0 (v_cb p0).2 with ⟨z1,e1,_⟩ | ⟨z1,e1,_⟩
  rotate_left
  · simp [e1]
  rcases int0 (v_rlerr p1) with ⟨z2,e2,_⟩ | ⟨z2,e2,_⟩
  rotate_left
  · simp [e1,e2]
  rcases int0 (v_cs p2).2 with ⟨z3,e3,_⟩ | ⟨z3,e3,_⟩
  rotate_left
  · simp [e1,e2,e3]
  have W:v_inw p0 p1 p2 := ⟨z1,z2,z3⟩
  have f0 := i_sto W
  have f1 := i_spo W p1 W.r
  obtain ⟨l1,l2⟩ := i_4 W
  have bok := v_cb_ok W.b
  have sn := v_strm_cnt bok p1
  have n1 := v_spl_len (v_strm p0 p1) p2
  simp only [f0,f1,l2]
  simp [e1,e2,e3,l1]
  omega

theorem own:ownKnob Try.prog.godebug = none := by kernel_rfl
theorem laidOut:laidOutB Try.prog = true := by kernel_rfl
theorem hfn7:Try.prog.funcs[7]? = some (fnOf Try.prog 7) := by kernel_rfl
theorem hps7:(fnOf Try.prog 7).params.size = 3 := by kernel_rfl
theorem lifted_MagnetInside (os:Os) (started:os.Started) (H:Type) (enc:TypeId×Value→H) :
    ReturnsInHanded {} Try.checked os 7 .any (Rows.magnetInsideSpec.pre6 enc Try.prog (fnOf Try.prog 7) [] false) (Rows.magnetInsideSpec.post enc Try.prog (fnOf Try.prog 7) false true false false) :=
  said_of (C := Try.checked) (ss := P_Z0.map shP) own started (by kernel_rfl) hfn7
    (ChangeSpec.witness6 (enc := enc) (C := Try.checked) false ⟨#[],zeroArgs P_Z0,[]⟩ 8 (by kernel_rfl) (by kernel_rfl) (by kernel_rfl) (by kernel_rfl)) rfl
    (fun ds h => by
      rw [hps7] at h
      match ds,h with
      | [_,_,_],_ => rfl)
    laidOut (by kernel_rfl) (rt := (fnOf Try.prog 7).resultTypes.getD 0 0) (by kernel_rfl) (by kernel_rfl) (by kernel_rfl)
    (law_of ok_Z0 fun x hx => ⟨(plain_Z0 x.1 x.2.1 x.2.2 hx).1,congrArg (fun b => V.p (.bool b)) (plain_Z0 x.1 x.2.1 x.2.2 hx).2⟩) (fun _ => rfl)
theorem MagnetInside_holds:Rows.MagnetInsideSaid :=
  OpenClaim.holds_of_wide 7 (fnOf Try.prog 7) rfl rfl rfl rfl rfl rfl rfl ⟨rfl,rfl,rfl,rfl,rfl⟩ rfl rfl rfl rfl rfl (by kernel_rfl) hfn7 (by kernel_rfl)
    (of_decide_eq_true (by kernel_rfl)) (by unfold Func.isWrapper; first | (rw [if_pos (by decide +kernel)]; kernel_rfl) | (rw [if_neg (by decide +kernel)]; exact ⟨rfl,rfl⟩))
    (fun os started H enc _ => lifted_MagnetInside os started H enc)
end Go.Proofs.Ytdkhhafmidokmaa
